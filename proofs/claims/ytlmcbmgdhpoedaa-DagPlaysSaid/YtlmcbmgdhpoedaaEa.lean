/- Laws of graphs: parents are in, a level below; each id stands below a head. -/
import Derived.Test.YtlmcbmgdhpoedaaDv
namespace Go.Proofs.Ytlmcbmgdhpoedaa.Ea
open Go.Proofs.Ytlmcbmgdhpoedaa.Da Go.Proofs.Ytlmcbmgdhpoedaa.Ds Go.Proofs.Ytlmcbmgdhpoedaa.Dt Go.Proofs.Ytlmcbmgdhpoedaa.Dv Go.Proofs.Ytlmcbmgdhpoedaa.Dj
set_option linter.unusedVariables false
set_option linter.unusedSimpArgs false

/-- Who is in stands on some that are in, with the level that these give. -/
def Wf (d : Gr) : Prop := ∀ e ∈ d.ins, e.2.2 = d.top e.2.1 ∧ d.ready e.2.1 = true
theorem has_iff {d : Gr} {x : Nm} : d.has x = true ↔ x ∈ d.ids := by unfold Gr.has; rw [decide_eq_true_eq]
theorem lev_enter {d : Gr} {x : Nm} {ps : List Nm} {p : Nm} (hp : p ∈ d.ids) : (d.enter x ps).lev p = d.lev p := by
  unfold Gr.lev Gr.enter
  simp only
  rw [get_append]
  cases hg : Da.get d.ins p with
  | none => exact absurd hp (get_none.1 hg)
  | some v => rfl
theorem par_enter {d : Gr} {x : Nm} {ps : List Nm} {p : Nm} (hp : p ∈ d.ids) : (d.enter x ps).par p = d.par p := by
  unfold Gr.par Gr.enter
  simp only
  rw [get_append]
  cases hg : Da.get d.ins p with
  | none => exact absurd hp (get_none.1 hg)
  | some v => rfl
theorem ids_enter {d : Gr} {x : Nm} {ps : List Nm} {p : Nm} : p ∈ (d.enter x ps).ids ↔ (p ∈ d.ids ∨ p = x) := by
  unfold Gr.ids Gr.enter
  simp
theorem foldl_top {d d' : Gr} (ps : List Nm) (h : ∀ p ∈ ps, d'.lev p = d.lev p) (l : Nat) : ps.foldl (fun l p => max l (d'.lev p + 1)) l = ps.foldl (fun l p => max l (d.lev p + 1)) l := by
  induction ps generalizing l with
  | nil => rfl
  | cons p r ih =>
    rw [List.foldl_cons, List.foldl_cons, h p (List.mem_cons_self ..)]
    exact ih (fun q hq => h q (List.mem_cons_of_mem _ hq)) _
theorem top_enter {d : Gr} {x : Nm} {ps qs : List Nm} (h : d.ready qs = true) : (d.enter x ps).top qs = d.top qs := by
  unfold Gr.top
  exact foldl_top qs (fun p hp => lev_enter (has_iff.1 (List.all_eq_true.1 h p hp))) 0
theorem ready_enter {d : Gr} {x : Nm} {ps qs : List Nm} (h : d.ready qs = true) : (d.enter x ps).ready qs = true := by
  unfold Gr.ready at *
  rw [List.all_eq_true] at *
  exact fun p hp => has_iff.2 (ids_enter.2 (.inl (has_iff.1 (h p hp))))
theorem Wf.enter {d : Gr} {x : Nm} {ps : List Nm} (h : Wf d) (hr : d.ready ps = true) : Wf (d.enter x ps) := by
  intro e he
  have he' : e ∈ d.ins ++ [(x, ps, d.top ps)] := he
  rcases List.mem_append.1 he' with he' | he'
  · obtain ⟨h1, h2⟩ := h e he'
    exact ⟨by rw [top_enter h2]; exact h1, ready_enter h2⟩
  · simp only [List.mem_singleton] at he'
    subst he'
    exact ⟨(top_enter hr).symm, ready_enter hr⟩
theorem Wf.settle (m : Nat) : ∀ (d : Gr) (out : List Nm), Wf d → Wf (settleAll m d out).1 := by
  induction m with
  | zero => exact fun d out h => h
  | succ m ih =>
    intro d out h
    unfold settleAll
    split
    · exact h
    · rename_i x hf
      have hr : d.ready (d.wpar x) = true := by
        have hf' : (srt d.wids).find? (fun x => d.ready (d.wpar x)) = some x := hf
        have := List.find?_some hf'
        exact this
      exact ih _ _ (h.enter hr)
theorem Wf.add {d : Gr} {x : Nm} {ps : List Nm} (h : Wf d) : Wf (d.add x ps).1 := by
  unfold Gr.add
  split
  · exact h
  · split
    · rename_i hr
      exact Wf.settle _ _ _ (h.enter hr)
    · exact h
theorem graph_wf (l : List Nd) : ∀ n, Wf (graph (l.take n)) := by
  intro n
  induction n with
  | zero => intro e he; simp [graph, pairs, addAll, Gr.new] at he
  | succ n ih =>
    by_cases hn : n < l.length
    · rw [graph_next l n hn]; exact ih.add
    · rw [List.take_of_length_le (by omega)]
      rwa [List.take_of_length_le (by omega)] at ih
theorem le_foldl (ps : List Nm) (d : Gr) : ∀ (l : Nat), l ≤ ps.foldl (fun l p => max l (d.lev p + 1)) l ∧ ∀ p ∈ ps, d.lev p + 1 ≤ ps.foldl (fun l p => max l (d.lev p + 1)) l := by
  induction ps with
  | nil => intro l; exact ⟨Nat.le_refl _, by simp⟩
  | cons p r ih =>
    intro l
    rw [List.foldl_cons]
    obtain ⟨h1, h2⟩ := ih (max l (d.lev p + 1))
    refine ⟨by omega, fun q hq => ?_⟩
    rcases List.mem_cons.1 hq with rfl | hq
    · omega
    · exact h2 q hq
/-- What a node of the graph is told by its id. -/
theorem par_at {d : Gr} {n : Nat} (hf : Fine d n) {e : Nm × List Nm × Nat} (he : e ∈ d.ins) : d.par e.1 = e.2.1 ∧ d.lev e.1 = e.2.2 := by
  have h := get_of_mem hf.nd (show (e.1, e.2) ∈ d.ins from he)
  unfold Gr.par Gr.lev
  rw [h]; exact ⟨rfl, rfl⟩
theorem par_in {d : Gr} {n : Nat} (hf : Fine d n) (hw : Wf d) {x p : Nm} (hp : p ∈ d.par x) : x ∈ d.ids ∧ p ∈ d.ids ∧ d.lev p < d.lev x ∧ ∃ e ∈ d.ins, e.1 = x ∧ p ∈ e.2.1 := by
  unfold Gr.par at hp
  cases hg : Da.get d.ins x with
  | none => rw [hg] at hp; simp at hp
  | some v =>
    rw [hg] at hp
    have hm := get_some_mem hg
    obtain ⟨h1, h2⟩ := hw _ hm
    have hx : x ∈ d.ids := List.mem_map.2 ⟨_, hm, rfl⟩
    have hl := (par_at hf hm).2
    simp only at h1 h2 hl
    refine ⟨hx, has_iff.1 (List.all_eq_true.1 h2 p hp), ?_, ⟨_, hm, rfl, hp⟩⟩
    rw [hl, h1]
    have := (le_foldl v.1 d 0).2 p hp
    unfold Gr.top
    omega
theorem reach_lev {d : Gr} {n : Nat} (hf : Fine d n) (hw : Wf d) {x y : Nm} (h : d.Reach x y) : d.lev y ≤ d.lev x ∧ (x ≠ y → d.lev y < d.lev x) := by
  induction h with
  | refl x => exact ⟨Nat.le_refl _, fun h => absurd rfl h⟩
  | step hp _ ih =>
    have := (par_in hf hw hp).2.2.1
    exact ⟨by omega, fun _ => by omega⟩
/-- Who is below another one is a parent of one. -/
theorem reach_last {d : Gr} {x y : Nm} (h : d.Reach x y) : x = y ∨ ∃ z, y ∈ d.par z := by
  induction h with
  | refl x => exact .inl rfl
  | @step x p y hp hr ih =>
    rcases ih with rfl | h
    · exact .inr ⟨x, hp⟩
    · exact .inr h
theorem mem_heads {d : Gr} {x : Nm} : x ∈ d.heads ↔ (x ∈ d.ids ∧ ∀ e ∈ d.ins, x ∉ e.2.1) := by
  unfold Gr.heads
  rw [mem_srt, List.mem_filter, Bool.not_eq_true', List.any_eq_false]
  constructor
  · rintro ⟨h1, h2⟩
    exact ⟨h1, fun e he hx => h2 e he (by simpa using hx)⟩
  · rintro ⟨h1, h2⟩
    exact ⟨h1, fun e he => by simpa using h2 e he⟩
/-- No head stands below another id. -/
theorem head_top {d : Gr} {n : Nat} (hf : Fine d n) (hw : Wf d) {x y : Nm} (hy : y ∈ d.heads) (h : d.Reach x y) : x = y := by
  rcases reach_last h with h | ⟨z, hz⟩
  · exact h
  · obtain ⟨_, _, _, e, he, _, hp⟩ := par_in hf hw hz
    exact absurd hp ((mem_heads.1 hy).2 e he)
theorem lev_top {d : Gr} {n : Nat} (hf : Fine d n) (x : Nm) : d.lev x ≤ d.ins.length := lev_le hf x
/-- Each id stands below a head. -/
theorem some_head {d : Gr} {n : Nat} (hf : Fine d n) (hw : Wf d) : ∀ (k : Nat) (x y : Nm), d.ins.length - d.lev y ≤ k → y ∈ d.ids → d.Reach y x → ∃ h ∈ d.heads, d.Reach h x := by
  intro k
  induction k with
  | zero =>
    intro x y hk hy hr
    refine ⟨y, mem_heads.2 ⟨hy, fun e he hp => ?_⟩, hr⟩
    have h1 := (par_at hf he).1
    have h2 := (par_in hf hw (x := e.1) (p := y) (by rw [h1]; exact hp)).2.2.1
    have := lev_top hf e.1
    omega
  | succ k ih =>
    intro x y hk hy hr
    by_cases hh : y ∈ d.heads
    · exact ⟨y, hh, hr⟩
    · have : ∃ e ∈ d.ins, y ∈ e.2.1 := by
        apply Classical.byContradiction
        intro hn
        exact hh (mem_heads.2 ⟨hy, fun e he hp => hn ⟨e, he, hp⟩⟩)
      obtain ⟨e, he, hp⟩ := this
      have h1 := (par_at hf he).1
      have hp' : y ∈ d.par e.1 := by rw [h1]; exact hp
      have h2 := (par_in hf hw hp').2.2.1
      exact ih x e.1 (by have := lev_top hf e.1; omega) (List.mem_map.2 ⟨e, he, rfl⟩) (.step hp' hr)
theorem has_head {d : Gr} {n : Nat} (hf : Fine d n) (hw : Wf d) {x : Nm} (hx : x ∈ d.ids) : ∃ h ∈ d.heads, d.Reach h x := some_head hf hw _ x x (Nat.le_refl _) hx (.refl x)
theorem heads_empty {d : Gr} {n : Nat} (hf : Fine d n) (hw : Wf d) : d.heads.length = 0 ↔ d.allIds.length = 0 := by
  rw [List.length_eq_zero_iff, List.length_eq_zero_iff]
  constructor
  · intro h
    cases hi : d.allIds with
    | nil => rfl
    | cons x r =>
      exfalso
      have hx : x ∈ d.ids := mem_srt.1 (show x ∈ d.allIds by rw [hi]; exact List.mem_cons_self ..)
      obtain ⟨y, hy, _⟩ := has_head hf hw hx
      rw [h] at hy
      simp at hy
  · intro h
    cases hi : d.heads with
    | nil => rfl
    | cons x r =>
      exfalso
      have hx : x ∈ d.heads := by rw [hi]; exact List.mem_cons_self ..
      have : x ∈ d.allIds := mem_srt.2 (mem_heads.1 hx).1
      rw [h] at this
      simp at this

/-- Whether b stands on a. -/
noncomputable def aboveB (d : Gr) (a b : Nm) : Bool := @decide (d.has a = true ∧ d.has b = true ∧ d.Reach b a) (Classical.propDecidable _)
theorem aboveB_iff {d : Gr} {a b : Nm} : aboveB d a b = true ↔ (d.has a = true ∧ d.has b = true ∧ d.Reach b a) := by
  unfold aboveB
  exact @decide_eq_true_iff _ (Classical.propDecidable _)
end Go.Proofs.Ytlmcbmgdhpoedaa.Ea
