/- The document's graph and the program's hold alike, whatever is added: in plain Lean. -/
import Derived.Test.YtlmcbmgdhpoedaaFl
import Derived.Test.YtlmcbmgdhpoedaaEa
namespace Go.Proofs.Ytlmcbmgdhpoedaa.Fm
open Go.Proofs.Ytlmcbmgdhpoedaa.Da Go.Proofs.Ytlmcbmgdhpoedaa.Db Go.Proofs.Ytlmcbmgdhpoedaa.Dj Go.Proofs.Ytlmcbmgdhpoedaa.Ds Go.Proofs.Ytlmcbmgdhpoedaa.Dt Go.Proofs.Ytlmcbmgdhpoedaa.Ea Go.Proofs.Ytlmcbmgdhpoedaa.Fa Go.Proofs.Ytlmcbmgdhpoedaa.Fb Go.Proofs.Ytlmcbmgdhpoedaa.Fc Go.Proofs.Ytlmcbmgdhpoedaa.Fd Go.Proofs.Ytlmcbmgdhpoedaa.Fe Go.Proofs.Ytlmcbmgdhpoedaa.Fl
set_option linter.unusedVariables false
set_option linter.unusedSimpArgs false

/-- Who is known where. -/
def look (d : Gr) (x : Nm) : Option Nd := if x ∈ d.ids then some ⟨x, d.par x, true⟩ else if x ∈ d.wids then some ⟨x, d.wpar x, false⟩ else none
structure Sim (d : Gr) (L : List Nd) : Prop where
  ss : SS (L.map (·.id))
  at_ : ∀ x, at? L x = look d x
structure Okk (d : Gr) : Prop where
  nd : d.ids.Nodup
  wnd : d.wids.Nodup
  apart : ∀ x, x ∈ d.ids → x ∈ d.wids → False
theorem at_id {L : List Nd} {x : Nm} {n : Nd} (h : at? L x = some n) : n.id = x := by
  have := List.find?_some h
  simpa using this
theorem at_mem {L : List Nd} {x : Nm} {n : Nd} (h : at? L x = some n) : n ∈ L := List.mem_of_find?_eq_some h
theorem mem_at {L : List Nd} (hs : (L.map (·.id)).Nodup) {n : Nd} (h : n ∈ L) : at? L n.id = some n := by
  induction L with
  | nil => simp at h
  | cons y r ih =>
    rw [List.map_cons, List.nodup_cons] at hs
    unfold at?
    rw [List.find?_cons]
    rcases List.mem_cons.1 h with rfl | h'
    · simp
    · have hne : y.id ≠ n.id := fun e => hs.1 (List.mem_map.2 ⟨n, h', e.symm⟩)
      simp only [hne, decide_false]
      exact ih hs.2 h'
theorem at_none {L : List Nd} {x : Nm} (h : x ∉ L.map (·.id)) : at? L x = none := by
  unfold at?
  rw [List.find?_eq_none]
  intro n hn
  simp only [decide_eq_true_eq]
  exact fun e => h (List.mem_map.2 ⟨n, hn, e⟩)
theorem look_in {d : Gr} {x : Nm} (h : x ∈ d.ids) : look d x = some ⟨x, d.par x, true⟩ := if_pos h
theorem look_wait {d : Gr} {x : Nm} (h : x ∉ d.ids) (h2 : x ∈ d.wids) : look d x = some ⟨x, d.wpar x, false⟩ := by unfold look; rw [if_neg h, if_pos h2]
theorem look_no {d : Gr} {x : Nm} (h : x ∉ d.ids) (h2 : x ∉ d.wids) : look d x = none := by unfold look; rw [if_neg h, if_neg h2]
theorem par_no {d : Gr} {x : Nm} (h : x ∉ d.ids) : d.par x = [] := by
  have : Da.get d.ins x = none := get_none.2 h
  unfold Gr.par
  rw [this]; rfl
theorem lev_no {d : Gr} {x : Nm} (h : x ∉ d.ids) : d.lev x = 0 := by
  have : Da.get d.ins x = none := get_none.2 h
  unfold Gr.lev
  rw [this]; rfl

section
variable {d : Gr} {L : List Nd}
theorem Sim.nodup (h : Sim d L) : (L.map (·.id)).Nodup := h.ss.nodup
theorem Sim.has (h : Sim d L) (x : Nm) : rhas L x = d.has x := by
  unfold rhas
  rw [h.at_]
  by_cases h1 : x ∈ d.ids
  · rw [look_in h1, has_iff.2 h1]
  · have hf : d.has x = false := by
      cases hb : d.has x with
      | false => rfl
      | true => exact absurd (has_iff.1 hb) h1
    rw [hf]
    by_cases h2 : x ∈ d.wids
    · rw [look_wait h1 h2]
    · rw [look_no h1 h2]
theorem Sim.ready (h : Sim d L) (ps : List Nm) : rready L ps = d.ready ps := by
  unfold rready Gr.ready
  congr 1
  funext x
  exact h.has x
theorem Sim.par (h : Sim d L) (x : Nm) : rpar L x = d.parents x := by
  unfold rpar Gr.parents
  rw [h.at_]
  by_cases h1 : x ∈ d.ids
  · rw [look_in h1]; rfl
  · rw [par_no h1]
    by_cases h2 : x ∈ d.wids
    · rw [look_wait h1 h2]; rfl
    · rw [look_no h1 h2]
theorem Sim.known (h : Sim d L) (x : Nm) : (at? L x).isSome = d.known x := by
  rw [h.at_]
  unfold Gr.known Gr.hasW Gr.has
  by_cases h1 : x ∈ d.ids
  · rw [look_in h1]; simp [h1]
  · by_cases h2 : x ∈ d.wids
    · rw [look_wait h1 h2]; simp [h2]
    · rw [look_no h1 h2]; simp [h1, h2]
theorem Sim.mem (h : Sim d L) {n : Nd} : n ∈ L ↔ look d n.id = some n := by
  rw [← h.at_]
  exact ⟨mem_at h.nodup, at_mem⟩
theorem Sim.mem_in (h : Sim d L) {x : Nm} : (∃ n ∈ L, n.inn = true ∧ n.id = x) ↔ x ∈ d.ids := by
  constructor
  · rintro ⟨n, hn, hi, rfl⟩
    have := h.mem.1 hn
    unfold look at this
    split at this
    · assumption
    · split at this
      · exact absurd (congrArg Nd.inn (Option.some.inj this)) (by simp [hi])
      · cases this
  · intro hx
    exact ⟨⟨x, d.par x, true⟩, h.mem.2 (look_in hx), rfl, rfl⟩
theorem Sim.mem_wait (h : Sim d L) (hk : Okk d) {x : Nm} : (∃ n ∈ L, n.inn = false ∧ n.id = x) ↔ x ∈ d.wids := by
  constructor
  · rintro ⟨n, hn, hi, rfl⟩
    have := h.mem.1 hn
    unfold look at this
    split at this
    · exact absurd (congrArg Nd.inn (Option.some.inj this)) (by simp [hi])
    · split at this
      · assumption
      · cases this
  · intro hx
    exact ⟨⟨x, d.wpar x, false⟩, h.mem.2 (look_wait (fun h1 => hk.apart x h1 hx) hx), rfl, rfl⟩
theorem rall_ss (h : SS (L.map (·.id))) (b : Bool) : SS (rall L b) := by
  unfold rall SS at *
  rw [List.pairwise_map] at *
  exact h.filter _
theorem mem_rall {b : Bool} {x : Nm} : x ∈ rall L b ↔ ∃ n ∈ L, n.inn = b ∧ n.id = x := by
  unfold rall
  simp only [List.mem_map, List.mem_filter, beq_iff_eq]
  constructor
  · rintro ⟨n, ⟨h1, h2⟩, h3⟩; exact ⟨n, h1, h2, h3⟩
  · rintro ⟨n, h1, h2, h3⟩; exact ⟨n, ⟨h1, h2⟩, h3⟩
theorem Sim.all (h : Sim d L) (hk : Okk d) : rall L true = d.allIds :=
  ss_ext (rall_ss h.ss _) (srt_ss hk.nd) (fun x => by unfold Gr.allIds; rw [mem_rall, mem_srt]; exact h.mem_in)
theorem Sim.waiting (h : Sim d L) (hk : Okk d) : rall L false = d.waiting :=
  ss_ext (rall_ss h.ss _) (srt_ss hk.wnd) (fun x => by unfold Gr.waiting; rw [mem_rall, mem_srt]; exact h.mem_wait hk)
theorem cnt_rall (L : List Nd) : cnt L = (rall L false).length := by
  unfold cnt rall
  rw [List.length_map]
  congr 2
  funext n
  cases n.inn <;> rfl
theorem Sim.many (h : Sim d L) (hk : Okk d) : cnt L = d.waits.length := by
  rw [cnt_rall, h.waiting hk]
  unfold Gr.waiting Gr.wids
  rw [srt_length, List.length_map]
/-- The first that comes in. -/
theorem Sim.first (h : Sim d L) (hk : Okk d) : (rfirst L = none ∧ d.first = none) ∨ ∃ k n, rfirst L = some k ∧ L[k]? = some n ∧ n.inn = false ∧ d.first = some n.id ∧ n.id ∈ d.wids ∧ n.par = d.wpar n.id := by
  have hm : ∀ n ∈ L, n.inn = false → n.id ∉ d.ids ∧ n.id ∈ d.wids ∧ n.par = d.wpar n.id := by
    intro n hn hi
    have := h.mem.1 hn
    unfold look at this
    split at this
    · exact absurd (congrArg Nd.inn (Option.some.inj this)) (by simp [hi])
    · rename_i h1
      split at this
      · rename_i h2
        have e := Option.some.inj this
        exact ⟨h1, h2, (congrArg Nd.par e).symm⟩
      · cases this
  have hf : d.first = (L.find? (fun n => !n.inn && rready L n.par)).map (·.id) := by
    have h1 : d.first = (rall L false).find? (fun x => d.ready (d.wpar x)) := by
      rw [h.waiting hk]; rfl
    rw [h1]
    unfold rall
    rw [List.find?_map, List.find?_filter]
    congr 1
    clear h1
    have : ∀ (M : List Nd), (∀ n ∈ M, n ∈ L) → List.find? (fun n => decide ((n.inn == false) = true ∧ (((fun x => d.ready (d.wpar x)) ∘ (fun n : Nd => n.id)) n) = true)) M = List.find? (fun n => !n.inn && rready L n.par) M := by
      intro M
      induction M with
      | nil => intro _; rfl
      | cons y r ih =>
        intro hM
        rw [List.find?_cons, List.find?_cons, ih (fun n hn => hM n (List.mem_cons_of_mem _ hn))]
        have hy := hM y (List.mem_cons_self ..)
        cases hi : y.inn with
        | true => simp
        | false =>
          have h3 := (hm y hy hi).2.2
          simp only [Function.comp, ← h3, h.ready]
          cases d.ready y.par <;> simp
    exact this L (fun n hn => hn)
  rw [hf]
  unfold rfirst
  cases hr : L.findIdx? (fun n => !n.inn && rready L n.par) with
  | none =>
    left
    refine ⟨rfl, ?_⟩
    rw [List.findIdx?_eq_none_iff] at hr
    have : L.find? (fun n => !n.inn && rready L n.par) = none := by
      rw [List.find?_eq_none]
      intro n hn
      have := hr n hn
      simp [this]
    rw [this]; rfl
  | some k =>
    right
    obtain ⟨hk1, h1, h2⟩ := List.findIdx?_eq_some_iff_getElem.1 hr
    have hfd : L.find? (fun n => !n.inn && rready L n.par) = some L[k] := by
      rw [List.find?_eq_some_iff_getElem]
      exact ⟨h1, k, hk1, rfl, fun j hj => by have h5 := h2 j hj; simp only [Bool.not_eq_true] at h5; simp only [h5, Bool.not_false]⟩
    have hi : L[k].inn = false := by
      rw [Bool.and_eq_true] at h1
      simpa using h1.1
    have h3 := hm _ (List.getElem_mem hk1) hi
    exact ⟨k, L[k], rfl, List.getElem?_eq_getElem hk1, hi, by rw [hfd]; rfl, h3.2.1, h3.2.2⟩
end

/-- One node more. -/
theorem insN_ids {x : Nd} {L : List Nd} (h : x.id ∉ L.map (·.id)) : (insN x L).map (·.id) = insS x.id (L.map (·.id)) := by
  induction L with
  | nil => rfl
  | cons y r ih =>
    rw [List.map_cons, List.mem_cons, not_or] at h
    unfold insN
    rw [List.map_cons]
    unfold insS
    by_cases hl : less x.id y.id = true
    · rw [if_pos hl, if_neg (fun e => h.1 e.symm), if_pos hl]; rfl
    · rw [if_neg hl, if_neg (fun e => h.1 e.symm), if_neg hl, List.map_cons, ih h.2]
theorem at_insN {x : Nd} {L : List Nd} (h : x.id ∉ L.map (·.id)) (z : Nm) : at? (insN x L) z = if z = x.id then some x else at? L z := by
  induction L with
  | nil =>
    unfold insN at?
    rw [List.find?_cons]
    by_cases e : z = x.id
    · subst e; simp
    · rw [if_neg e, show decide (x.id = z) = false from decide_eq_false (fun h => e h.symm)]
  | cons y r ih =>
    rw [List.map_cons, List.mem_cons, not_or] at h
    unfold insN
    by_cases hl : less x.id y.id = true
    · rw [if_pos hl]
      unfold at?
      rw [List.find?_cons]
      by_cases e : z = x.id
      · subst e; simp
      · rw [if_neg e, show decide (x.id = z) = false from decide_eq_false (fun h => e h.symm)]
    · rw [if_neg hl]
      have ih2 := ih h.2
      unfold at? at ih2 ⊢
      rw [List.find?_cons, List.find?_cons]
      by_cases e : y.id = z
      · subst e
        have : ¬ y.id = x.id := fun e => h.1 e.symm
        simp [this]
      · simp only [e, decide_false]
        exact ih2
theorem set_ids {L : List Nd} : ∀ {k : Nat} {n : Nd}, L[k]? = some n → (L.set k ⟨n.id, n.par, true⟩).map (·.id) = L.map (·.id) := by
  induction L with
  | nil => intro k n h; simp at h
  | cons y r ih =>
    intro k n h
    cases k with
    | zero =>
      have e : y = n := by simpa using h
      subst e; rfl
    | succ k =>
      rw [List.set_cons_succ, List.map_cons, List.map_cons, ih (by simpa using h)]
theorem at_set {L : List Nd} : ∀ {k : Nat} {n : Nd}, (L.map (·.id)).Nodup → L[k]? = some n → ∀ z, at? (L.set k ⟨n.id, n.par, true⟩) z = if z = n.id then some ⟨n.id, n.par, true⟩ else at? L z := by
  induction L with
  | nil => intro k n _ h; simp at h
  | cons y r ih =>
    intro k n hs h z
    rw [List.map_cons, List.nodup_cons] at hs
    cases k with
    | zero =>
      have e : y = n := by simpa using h
      subst e
      rw [List.set_cons_zero]
      unfold at?
      rw [List.find?_cons, List.find?_cons]
      by_cases e : z = y.id
      · subst e; simp
      · rw [if_neg e, show decide (y.id = z) = false from decide_eq_false (fun h => e h.symm)]
    | succ k =>
      have h' : r[k]? = some n := by simpa using h
      have ih2 := ih hs.2 h' z
      have hne : y.id ≠ n.id := fun e => hs.1 (by rw [e]; exact List.mem_map.2 ⟨n, List.mem_of_getElem? h', rfl⟩)
      rw [List.set_cons_succ]
      unfold at? at ih2 ⊢
      rw [List.find?_cons, List.find?_cons]
      by_cases e : y.id = z
      · subst e
        simp [hne]
      · simp only [e, decide_false]
        exact ih2

theorem wids_enter {d : Gr} {x y : Nm} {ps : List Nm} : y ∈ (d.enter x ps).wids ↔ (y ∈ d.wids ∧ y ≠ x) := by
  show y ∈ (d.waits.filter (fun p => decide (p.1 ≠ x))).map (·.1) ↔ _
  rw [filter_wids, List.mem_filter, decide_eq_true_eq]
theorem wpar_enter {d : Gr} {x y : Nm} {ps : List Nm} (h : y ≠ x) : (d.enter x ps).wpar y = d.wpar y := by
  unfold Gr.wpar Gr.enter Da.get
  simp only
  congr 2
  rw [List.find?_filter]
  congr 1
  funext p
  by_cases e : p.1 = y
  · subst e; simp [h]
  · simp [e]
theorem par_own {d : Gr} {x : Nm} {ps : List Nm} (h : x ∉ d.ids) : (d.enter x ps).par x = ps := by
  have : Da.get d.ins x = none := get_none.2 h
  unfold Gr.par Gr.enter
  simp only
  rw [get_append, this]
  unfold Da.get
  simp
theorem Okk.enter {d : Gr} (h : Okk d) {x : Nm} {ps : List Nm} (hx : x ∉ d.ids) : Okk (d.enter x ps) := by
  refine ⟨?_, ?_, ?_⟩
  · show (List.map (·.1) (d.ins ++ [(x, ps, d.top ps)])).Nodup
    rw [List.map_append, List.nodup_append]
    refine ⟨h.nd, by simp, ?_⟩
    intro a ha b hb
    simp only [List.map_cons, List.map_nil, List.mem_singleton] at hb
    subst hb
    intro e
    subst e
    exact hx ha
  · show (List.map (·.1) (d.waits.filter (fun p => decide (p.1 ≠ x)))).Nodup
    rw [filter_wids]
    exact h.wnd.filter _
  · intro y hy hw
    rw [wids_enter] at hw
    rcases ids_enter.1 hy with hy | hy
    · exact h.apart y hy hw.1
    · exact hw.2 hy
theorem look_enter {d : Gr} {x y : Nm} {ps : List Nm} (hx : x ∉ d.ids) : look (d.enter x ps) y = if y = x then some ⟨x, ps, true⟩ else look d y := by
  by_cases e : y = x
  · subst e
    rw [if_pos rfl, look_in (ids_enter.2 (.inr rfl)), par_own hx]
  · rw [if_neg e]
    by_cases h1 : y ∈ d.ids
    · rw [look_in h1, look_in (ids_enter.2 (.inl h1)), par_enter h1]
    · have h1' : y ∉ (d.enter x ps).ids := fun h => by rcases ids_enter.1 h with h | h; exact h1 h; exact e h
      by_cases h2 : y ∈ d.wids
      · rw [look_wait h1 h2, look_wait h1' (wids_enter.2 ⟨h2, e⟩), wpar_enter e]
      · rw [look_no h1 h2, look_no h1' (fun h => h2 (wids_enter.1 h).1)]
theorem Sim.enterW {d : Gr} {L : List Nd} (h : Sim d L) {k : Nat} {n : Nd} (hg : L[k]? = some n) (hi : n.id ∉ d.ids) : Sim (d.enter n.id n.par) (L.set k ⟨n.id, n.par, true⟩) := by
  refine ⟨by rw [set_ids hg]; exact h.ss, fun z => ?_⟩
  rw [at_set h.nodup hg, look_enter hi, h.at_]
theorem Sim.settle (m : Nat) : ∀ (d : Gr) (L : List Nd) (out : List Nm), Sim d L → Okk d → (settleAll m d out).2 = (rsettle m L out).2 ∧ Sim (settleAll m d out).1 (rsettle m L out).1 ∧ Okk (settleAll m d out).1 := by
  induction m with
  | zero => exact fun d L out h hk => ⟨rfl, h, hk⟩
  | succ m ih =>
    intro d L out h hk
    unfold settleAll rsettle
    rcases h.first hk with ⟨h1, h2⟩ | ⟨k, n, h1, h2, h3, h4, h5, h6⟩
    · rw [h1, h2]; exact ⟨rfl, h, hk⟩
    · simp only [h1, h2, h4]
      have hi : n.id ∉ d.ids := fun hh => hk.apart _ hh h5
      rw [← h6]
      exact ih _ _ _ (h.enterW h2 hi) (hk.enter hi)
theorem waits_same {d : Gr} {x : Nm} {ps : List Nm} (h : x ∉ d.wids) : (d.enter x ps).waits.length = d.waits.length := by
  show (d.waits.filter (fun p => decide (p.1 ≠ x))).length = _
  rw [List.filter_eq_self.2]
  intro p hp
  rw [decide_eq_true_eq]
  exact fun e => h (List.mem_map.2 ⟨p, hp, e⟩)
/-- An id is added to both. -/
theorem Sim.add {d : Gr} {L : List Nd} (h : Sim d L) (hk : Okk d) (x : Nm) (ps : List Nm) : (d.add x ps).2 = (radd L x ps).2 ∧ Sim (d.add x ps).1 (radd L x ps).1 ∧ Okk (d.add x ps).1 := by
  unfold Gr.add radd
  rw [h.known]
  cases hkn : d.known x with
  | true => exact ⟨rfl, h, hk⟩
  | false =>
    simp only [Bool.false_eq_true, if_false]
    have h1 : x ∉ d.ids := fun hh => by unfold Gr.known Gr.has at hkn; simp [hh] at hkn
    have h2 : x ∉ d.wids := fun hh => by unfold Gr.known Gr.hasW at hkn; simp [hh] at hkn
    have hx : x ∉ L.map (·.id) := by
      intro hh
      obtain ⟨n, hn, rfl⟩ := List.mem_map.1 hh
      have := h.known n.id
      rw [hkn, mem_at h.nodup hn] at this
      cases this
    rw [sorted_alike, h.ready]
    generalize uniq (srt ps) = own
    cases hr : d.ready own with
    | true =>
      simp only [if_true]
      have hs : Sim (d.enter x own) (insN ⟨x, own, true⟩ L) := by
        refine ⟨by rw [insN_ids (x := ⟨x, own, true⟩) hx]; exact insS_ss h.ss, fun z => ?_⟩
        rw [at_insN (x := ⟨x, own, true⟩) hx, look_enter h1, h.at_]
      have hk2 := hk.enter (ps := own) h1
      have e : Fl.cnt (insN ⟨x, own, true⟩ L) = d.waits.length := by rw [hs.many hk2, waits_same h2]
      rw [e]
      exact Sim.settle _ _ _ _ hs hk2
    | false =>
      simp only [Bool.false_eq_true, if_false]
      have hw : ∀ y, y ∈ (⟨d.ins, d.waits ++ [(x, own)]⟩ : Gr).wids ↔ (y ∈ d.wids ∨ y = x) := by
        intro y
        show y ∈ (d.waits ++ [(x, own)]).map (·.1) ↔ _
        rw [List.map_append, List.mem_append]
        simp [Gr.wids]
      refine ⟨trivial, ⟨by rw [insN_ids (x := ⟨x, own, false⟩) hx]; exact insS_ss h.ss, fun z => ?_⟩, ?_⟩
      · rw [at_insN (x := ⟨x, own, false⟩) hx, h.at_]
        by_cases e : z = x
        · subst e
          rw [if_pos rfl, look_wait (d := ⟨d.ins, d.waits ++ [(z, own)]⟩) h1 ((hw z).2 (.inr rfl))]
          congr 2
          unfold Gr.wpar
          rw [get_append, get_none.2 h2]
          unfold Da.get
          simp
        · rw [if_neg e]
          by_cases h3 : z ∈ d.ids
          · rw [look_in h3, look_in (d := ⟨d.ins, d.waits ++ [(x, own)]⟩) h3]; rfl
          · by_cases h4 : z ∈ d.wids
            · rw [look_wait h3 h4, look_wait (d := ⟨d.ins, d.waits ++ [(x, own)]⟩) h3 ((hw z).2 (.inl h4))]
              congr 2
              unfold Gr.wpar
              rw [get_append]
              cases hg : Da.get d.waits z with
              | none => exact absurd h4 (get_none.1 hg)
              | some v => rfl
            · rw [look_no h3 h4, look_no (d := ⟨d.ins, d.waits ++ [(x, own)]⟩) h3 (fun hh => by rcases (hw z).1 hh with hh | hh; exact h4 hh; exact e hh)]
      · refine ⟨hk.nd, ?_, fun y hy hyw => ?_⟩
        · show ((d.waits ++ [(x, own)]).map (·.1)).Nodup
          rw [List.map_append, List.nodup_append]
          refine ⟨hk.wnd, by simp, ?_⟩
          intro a ha b hb
          simp only [List.map_cons, List.map_nil, List.mem_singleton] at hb
          subst hb
          intro e
          subst e
          exact h2 ha
        · rcases (hw y).1 hyw with hh | hh
          · exact hk.apart y hy hh
          · subst hh; exact h1 hy
/-- All that was added. -/
def rgraph (l : List Nd) : List Nd := l.foldl (fun L n => (radd L n.id n.par).1) []
theorem rgraph_next (l : List Nd) (k : Nat) (hk : k < l.length) : rgraph (l.take (k + 1)) = (radd (rgraph (l.take k)) l[k].id l[k].par).1 := by
  unfold rgraph
  rw [List.take_succ_eq_append_getElem hk, List.foldl_append]
  rfl
theorem Sim.graph (l : List Nd) : ∀ k, k ≤ l.length → Sim (graph (l.take k)) (rgraph (l.take k)) ∧ Okk (graph (l.take k)) := by
  intro k
  induction k with
  | zero => intro _; exact ⟨⟨List.Pairwise.nil, fun x => rfl⟩, ⟨List.Pairwise.nil, List.Pairwise.nil, fun x h => by cases h⟩⟩
  | succ k ih =>
    intro hk
    obtain ⟨h1, h2⟩ := ih (by omega)
    rw [graph_next l k (by omega), rgraph_next l k (by omega)]
    exact (h1.add h2 _ _).2
end Go.Proofs.Ytlmcbmgdhpoedaa.Fm
