/- The document's answers and the program's are alike: what is lacking, heads, levels, who stands on whom: in plain Lean. -/
import Derived.Test.YtlmcbmgdhpoedaaFm
import Derived.Test.YtlmcbmgdhpoedaaFh
namespace Go.Proofs.Ytlmcbmgdhpoedaa.Fn
open Go.Proofs.Ytlmcbmgdhpoedaa.Da Go.Proofs.Ytlmcbmgdhpoedaa.Db Go.Proofs.Ytlmcbmgdhpoedaa.Dj Go.Proofs.Ytlmcbmgdhpoedaa.Ds Go.Proofs.Ytlmcbmgdhpoedaa.Dt Go.Proofs.Ytlmcbmgdhpoedaa.Ea Go.Proofs.Ytlmcbmgdhpoedaa.Fa Go.Proofs.Ytlmcbmgdhpoedaa.Fb Go.Proofs.Ytlmcbmgdhpoedaa.Fc Go.Proofs.Ytlmcbmgdhpoedaa.Fd Go.Proofs.Ytlmcbmgdhpoedaa.Fe Go.Proofs.Ytlmcbmgdhpoedaa.Ff Go.Proofs.Ytlmcbmgdhpoedaa.Fg Go.Proofs.Ytlmcbmgdhpoedaa.Fh Go.Proofs.Ytlmcbmgdhpoedaa.Fi Go.Proofs.Ytlmcbmgdhpoedaa.Fj Go.Proofs.Ytlmcbmgdhpoedaa.Fl Go.Proofs.Ytlmcbmgdhpoedaa.Fm
set_option linter.unusedVariables false
set_option linter.unusedSimpArgs false

section
variable {d : Gr} {L : List Nd} {N : Nat}
theorem find_neg {x : Nm} : findN L x < 0 ↔ at? L x = none := by
  rcases findN_cases L x with ⟨h1, h2⟩ | ⟨k, hk, h1, h2, h3⟩
  · rw [h1, h2]; simp
  · rw [h1, h3]; simp
theorem in_node (h : Sim d L) (hf : Fine d N) {e : Nm × List Nm × Nat} (he : e ∈ d.ins) : (⟨e.1, e.2.1, true⟩ : Nd) ∈ L := by
  refine h.mem.2 ?_
  rw [look_in (List.mem_map.2 ⟨e, he, rfl⟩), (par_at hf he).1]
theorem node_in (h : Sim d L) {n : Nd} (hn : n ∈ L) (hi : n.inn = true) : n.id ∈ d.ids ∧ n.par = d.par n.id := by
  have := h.mem.1 hn
  unfold Fm.look at this
  split at this
  · rename_i h1
    exact ⟨h1, (congrArg Nd.par (Option.some.inj this)).symm⟩
  · split at this
    · exact absurd (congrArg Nd.inn (Option.some.inj this)) (by simp [hi])
    · cases this
theorem wait_node (h : Sim d L) (hk : Okk d) {e : Nm × List Nm} (he : e ∈ d.waits) : (⟨e.1, e.2, false⟩ : Nd) ∈ L := by
  have hw : e.1 ∈ d.wids := List.mem_map.2 ⟨e, he, rfl⟩
  refine h.mem.2 ?_
  rw [look_wait (fun hh => hk.apart _ hh hw) hw]
  have : d.wpar e.1 = e.2 := by
    unfold Gr.wpar
    rw [get_of_mem hk.wnd (show (e.1, e.2) ∈ d.waits from he)]; rfl
  rw [this]
theorem node_wait (h : Sim d L) (hk : Okk d) {n : Nd} (hn : n ∈ L) (hi : n.inn = false) : (n.id, n.par) ∈ d.waits := by
  have := h.mem.1 hn
  unfold Fm.look at this
  split at this
  · exact absurd (congrArg Nd.inn (Option.some.inj this)) (by simp [hi])
  · split at this
    · rename_i h2
      have e := (congrArg Nd.par (Option.some.inj this)).symm
      simp only at e
      obtain ⟨p, hp, hpe⟩ := List.mem_map.1 h2
      have hg := get_of_mem hk.wnd (show (p.1, p.2) ∈ d.waits from hp)
      have hw : d.wpar n.id = p.2 := by unfold Gr.wpar; rw [← hpe, hg]; rfl
      rw [e, hw, ← hpe]
      exact hp
    · cases this
theorem sim_lacks (h : Sim d L) (hk : Okk d) : rlacks L = d.lacks := by
  refine ss_ext (rlackL_ss L [] List.Pairwise.nil) (srt_ss (nodup_lackL d _ [] List.Pairwise.nil)) (fun x => ?_)
  unfold rlacks Gr.lacks
  rw [mem_rlackL, mem_srt, mem_lackL]
  have hx : findN L x < 0 ↔ d.known x = false := by
    rw [find_neg, ← h.known]
    cases at? L x <;> simp
  constructor
  · rintro (hh | ⟨n, hn, hi, hp, hf⟩)
    · cases hh
    · exact .inr ⟨List.mem_flatMap.2 ⟨_, node_wait h hk hn hi, hp⟩, hx.1 hf⟩
  · rintro (hh | ⟨h1, h2⟩)
    · cases hh
    · obtain ⟨e, he, hp⟩ := List.mem_flatMap.1 h1
      exact .inr ⟨_, wait_node h hk he, rfl, hp, hx.2 h2⟩
theorem sim_heads (h : Sim d L) (hk : Okk d) (hf : Fine d N) : rheads L = d.heads := by
  have hs : SS (rheads L) := by
    have := h.ss
    unfold rheads rheadsT SS at *
    rw [List.pairwise_map] at *
    exact this.filter _
  refine ss_ext hs (srt_ss (hk.nd.filter _)) (fun x => ?_)
  show x ∈ rheads L ↔ x ∈ d.heads
  rw [mem_heads]
  unfold rheads rheadsT
  rw [List.mem_map]
  constructor
  · rintro ⟨n, hn, rfl⟩
    rw [List.mem_filter] at hn
    obtain ⟨hn, hh⟩ := hn
    unfold hfold at hh
    rw [Bool.and_eq_true, Bool.not_eq_true', List.any_eq_false] at hh
    refine ⟨(node_in h hn hh.1).1, fun e he hx => ?_⟩
    have := hh.2 _ (in_node h hf he)
    simp [hx] at this
  · rintro ⟨hx, hh⟩
    refine ⟨⟨x, d.par x, true⟩, ?_, rfl⟩
    rw [List.mem_filter]
    refine ⟨h.mem.2 (look_in hx), ?_⟩
    unfold hfold
    rw [Bool.and_eq_true, Bool.not_eq_true', List.any_eq_false]
    refine ⟨rfl, fun m hm hc => ?_⟩
    rw [Bool.and_eq_true, decide_eq_true_eq] at hc
    obtain ⟨h1, h2⟩ := node_in h hm hc.1
    obtain ⟨e, he, he2⟩ := List.mem_map.1 h1
    have := (par_at hf he).1
    refine hh e he ?_
    rw [← this, he2, ← h2]
    exact hc.2

/-! Levels. -/
def glev (d : Gr) (L : List Nd) (i : Nat) : Nat := match L[i]? with | some n => d.lev n.id | none => 0
theorem glev_at {i : Nat} (hi : i < L.length) : glev d L i = d.lev L[i].id := by
  unfold glev
  rw [List.getElem?_eq_getElem hi]
theorem sim_len (h : Sim d L) (hk : Okk d) : d.ins.length ≤ L.length := by
  have h1 : d.ids.length ≤ (L.map (·.id)).length := nodup_len hk.nd (fun x hx => by
    obtain ⟨n, hn, _, rfl⟩ := h.mem_in.2 hx
    exact List.mem_map.2 ⟨n, hn, rfl⟩)
  unfold Gr.ids at h1
  rwa [List.length_map, List.length_map] at h1
theorem idx_at {x : Nm} (hx : (at? L x).isSome = true) : ∃ (k : Nat) (hk : k < L.length), findN L x = k ∧ idx L x = k ∧ L[k].id = x := by
  rcases findN_cases L x with ⟨h1, h2⟩ | ⟨k, hk, h1, h2, h3⟩
  · rw [h2] at hx; cases hx
  · exact ⟨k, hk, h1, by unfold idx; rw [h1]; rfl, h2⟩
theorem known_in {x : Nm} (h : x ∈ d.ids) : d.known x = true := by unfold Gr.known Gr.has; simp [h]
theorem sim_bd (h : Sim d L) (hf : Fine d N) (hw : Wf d) (hN : N ≤ 1000) : Bd L (glev d L) := by
  refine ⟨fun i => ?_, fun i hi hin p hp => ?_⟩
  · unfold glev
    split
    · have := lev_le hf ‹Nd›.id
      have := hf.many
      omega
    · omega
  · obtain ⟨h1, h2⟩ := node_in h (List.getElem_mem hi) hin
    rw [h2] at hp
    obtain ⟨_, h3, h4, _⟩ := par_in hf hw hp
    obtain ⟨k, hk, h5, h6, h7⟩ := idx_at (L := L) (x := p) (by rw [h.known]; exact known_in h3)
    refine ⟨⟨k, hk, h5⟩, ?_⟩
    rw [h6, glev_at hk, glev_at hi, h7]
    exact h4
theorem lvS_ge {f : Nat → Nat} {i : Nat} {p : Nm} (j : Nat) : f j ≤ lvS L i f p j := by
  unfold lvS upd
  split
  · rename_i e; subst e; exact Nat.le_max_left _ _
  · exact Nat.le_refl _
theorem lvP_ge {i : Nat} (ps : List Nm) : ∀ (f : Nat → Nat) (j : Nat), f j ≤ lvP L i f ps j := by
  induction ps with
  | nil => exact fun f j => Nat.le_refl _
  | cons p r ih => exact fun f j => Nat.le_trans (lvS_ge j) (ih _ j)
theorem lvP_in {i : Nat} (ps : List Nm) : ∀ (f : Nat → Nat) (p : Nm), p ∈ ps → f (idx L p) + 1 ≤ lvP L i f ps i := by
  induction ps with
  | nil => intro f p hp; cases hp
  | cons q r ih =>
    intro f p hp
    show f (idx L p) + 1 ≤ lvP L i (lvS L i f q) r i
    rcases List.mem_cons.1 hp with rfl | hp
    · refine Nat.le_trans ?_ (lvP_ge r _ i)
      unfold lvS
      rw [upd_eq]
      exact Nat.le_max_right _ _
    · exact Nat.le_trans (Nat.add_le_add_right (lvS_ge _) 1) (ih _ p hp)
theorem lvI_ge (f : Nat → Nat) (j : Nat) : ∀ i, f j ≤ lvI L f i j := by
  intro i
  induction i with
  | zero => exact Nat.le_refl _
  | succ i ih =>
    by_cases hi : i < L.length
    · cases hin : L[i].inn with
      | true => rw [lvI_in hi hin]; exact Nat.le_trans ih (lvP_ge _ _ _)
      | false => rw [lvI_out hi hin]; exact ih
    · rw [lvI_off (by omega)]; exact ih
theorem lvI_up (f : Nat → Nat) (j a : Nat) : ∀ b, a ≤ b → lvI L f a j ≤ lvI L f b j := by
  intro b hab
  induction b with
  | zero => rw [show a = 0 by omega]; exact Nat.le_refl _
  | succ b ih =>
    by_cases e : a = b + 1
    · subst e; exact Nat.le_refl _
    · refine Nat.le_trans (ih (by omega)) ?_
      by_cases hi : b < L.length
      · cases hin : L[b].inn with
        | true => rw [lvI_in hi hin]; exact lvP_ge _ _ _
        | false => rw [lvI_out hi hin]; exact Nat.le_refl _
      · rw [lvI_off (by omega)]; exact Nat.le_refl _
theorem lvT_in (t i : Nat) (hi : i < L.length) (hin : L[i].inn = true) {p : Nm} (hp : p ∈ L[i].par) : lvT L t (idx L p) + 1 ≤ lvT L (t + 1) i := by
  show _ ≤ lvI L (lvT L t) L.length i
  refine Nat.le_trans ?_ (lvI_up _ i (i + 1) L.length (by omega))
  rw [lvI_in hi hin]
  exact Nat.le_trans (Nat.add_le_add_right (lvI_ge _ _ i) 1) (lvP_in _ _ p hp)
theorem top_some (d : Gr) (ps : List Nm) : ∀ l, ps.foldl (fun l p => max l (d.lev p + 1)) l = l ∨ ∃ p ∈ ps, d.lev p + 1 = ps.foldl (fun l p => max l (d.lev p + 1)) l := by
  induction ps with
  | nil => exact fun l => .inl rfl
  | cons p r ih =>
    intro l
    rw [List.foldl_cons]
    rcases ih (max l (d.lev p + 1)) with h | ⟨q, hq, h⟩
    · rw [h]
      by_cases hl : l ≤ d.lev p + 1
      · exact .inr ⟨p, List.mem_cons_self .., (Nat.max_eq_right hl).symm⟩
      · exact .inl (Nat.max_eq_left (by omega))
    · exact .inr ⟨q, List.mem_cons_of_mem _ hq, h⟩
theorem lvT_ge (h : Sim d L) (hf : Fine d N) (hw : Wf d) (hN : N ≤ 1000) : ∀ t i (hi : i < L.length), L[i].inn = true → glev d L i ≤ t → glev d L i ≤ lvT L t i := by
  intro t
  induction t with
  | zero => intro i hi hin ht; omega
  | succ t ih =>
    intro i hi hin ht
    obtain ⟨h1, h2⟩ := node_in h (List.getElem_mem hi) hin
    obtain ⟨e, he, he2⟩ := List.mem_map.1 h1
    obtain ⟨h3, h4⟩ := par_at hf he
    have h5 := (hw e he).1
    rw [he2] at h3 h4
    rw [glev_at hi, h4, h5] at ht ⊢
    rcases top_some d e.2.1 0 with h6 | ⟨p, hp, h6⟩
    · unfold Gr.top; rw [h6]; exact Nat.zero_le _
    · have hp' : p ∈ L[i].par := by rw [h2, h3]; exact hp
      obtain ⟨⟨k, hk, h7⟩, _⟩ := (sim_bd h hf hw hN).par i hi hin p hp'
      have h8 := lvT_in t i hi hin hp'
      have h9 : p ∈ d.ids := (par_in hf hw (x := L[i].id) (by rw [h3]; exact hp)).2.1
      obtain ⟨m, hm, h10, h11, h12⟩ := idx_at (L := L) (x := p) (by rw [h.known]; exact known_in h9)
      have h13 : L[m].inn = true := by
        obtain ⟨n, hn, hi1, hi2⟩ := h.mem_in.2 h9
        have a1 := mem_at h.nodup hn
        have a2 := mem_at h.nodup (List.getElem_mem hm)
        rw [h12, ← hi2, a1] at a2
        rw [← Option.some.inj a2]; exact hi1
      have h14 : glev d L m = d.lev p := by rw [glev_at hm, h12]
      have ht' : d.lev p ≤ t := by unfold Gr.top at ht; omega
      have h15 := ih m hm h13 (by rw [h14]; exact ht')
      rw [h14] at h15
      rw [h11] at h8
      unfold Gr.top
      omega
theorem sim_level (h : Sim d L) (hk : Okk d) (hf : Fine d N) (hw : Wf d) (hN : N ≤ 1000) (x : Nm) : rlevel L x = d.level x := by
  unfold rlevel Gr.level
  rw [h.has]
  cases hh : d.has x with
  | false => rfl
  | true =>
    simp only [if_true]
    have hx := has_iff.1 hh
    obtain ⟨m, hm, h10, h11, h12⟩ := idx_at (L := L) (x := x) (by rw [h.known]; exact known_in hx)
    have h13 : L[m].inn = true := by
      obtain ⟨n, hn, hi1, hi2⟩ := h.mem_in.2 hx
      have a1 := mem_at h.nodup hn
      have a2 := mem_at h.nodup (List.getElem_mem hm)
      rw [h12, ← hi2, a1] at a2
      rw [← Option.some.inj a2]; exact hi1
    have h14 : glev d L m = d.lev x := by rw [glev_at hm, h12]
    have h1 := lvT_le (sim_bd h hf hw hN) L.length m
    have h2 := lvT_ge h hf hw hN L.length m hm h13 (by
      rw [h14]; exact Nat.le_trans (lev_le hf x) (sim_len h hk))
    rw [h11]
    have : lvT L L.length m = d.lev x := by omega
    rw [this]

/-! Who stands on whom. -/
theorem Gr.Reach.snoc {x y z : Nm} (h : d.Reach x y) (hp : z ∈ d.par y) : d.Reach x z := by
  induction h with
  | refl x => exact .step hp (.refl _)
  | step h1 _ ih => exact .step h1 (ih hp)
theorem mem_belI {z : Nm} (l : List Nm) : ∀ acc, z ∈ belI L acc l ↔ (z ∈ acc ∨ ∃ x ∈ l, z ∈ rpar L x) := by
  induction l with
  | nil => intro acc; simp [belI]
  | cons x r ih =>
    intro acc
    show z ∈ belI L (putAll acc (rpar L x)) r ↔ _
    rw [ih, mem_putAll]
    constructor
    · rintro ((h | h) | ⟨y, hy, h⟩)
      · exact .inl h
      · exact .inr ⟨x, List.mem_cons_self .., h⟩
      · exact .inr ⟨y, List.mem_cons_of_mem _ hy, h⟩
    · rintro (h | ⟨y, hy, h⟩)
      · exact .inl (.inl h)
      · rcases List.mem_cons.1 hy with rfl | hy
        · exact .inl (.inr h)
        · exact .inr ⟨y, hy, h⟩
theorem belN_up {b z : Nm} : ∀ {n m : Nat}, n ≤ m → z ∈ belN L b n → z ∈ belN L b m := by
  intro n m hnm
  induction m with
  | zero => rw [show n = 0 by omega]; exact fun h => h
  | succ m ih =>
    intro h
    by_cases e : n = m + 1
    · subst e; exact h
    · exact (mem_belI _ _).2 (.inl (ih (by omega) h))
theorem belN_sound (h : Sim d L) {b : Nm} : ∀ n z, z ∈ belN L b n → d.Reach b z := by
  intro n
  induction n with
  | zero =>
    intro z hz
    have e : z = b := by simpa [belN] using hz
    subst e; exact .refl _
  | succ n ih =>
    intro z hz
    rcases (mem_belI _ _).1 hz with hz | ⟨x, hx, hz⟩
    · exact ih z hz
    · rw [h.par] at hz
      exact Gr.Reach.snoc (ih x hx) hz
theorem belN_full (h : Sim d L) (hf : Fine d N) (hw : Wf d) {b x y : Nm} (hr : d.Reach x y) : ∀ n, x ∈ belN L b n → y ∈ belN L b (n + d.lev x) := by
  induction hr with
  | refl x => exact fun n hn => belN_up (by omega) hn
  | @step x p y hp _ ih =>
    intro n hn
    have h1 := (par_in hf hw hp).2.2.1
    have h2 : p ∈ belN L b (n + 1) := (mem_belI _ _).2 (.inr ⟨x, hn, by rw [h.par]; exact hp⟩)
    exact belN_up (by omega) (ih (n + 1) h2)
theorem sim_above (h : Sim d L) (hk : Okk d) (hf : Fine d N) (hw : Wf d) (a b : Nm) : rabove L a b = aboveB d a b := by
  rw [Bool.eq_iff_iff, aboveB_iff]
  unfold rabove rbel
  rw [h.has, decide_eq_true_eq]
  cases hb : d.has b with
  | false => simp
  | true =>
    simp only [if_true]
    constructor
    · intro ha
      have hr := belN_sound h _ _ ha
      refine ⟨?_, trivial, hr⟩
      rcases reach_last hr with rfl | ⟨z, hz⟩
      · exact hb
      · exact has_iff.2 (par_in hf hw hz).2.1
    · rintro ⟨_, _, hr⟩
      have := belN_full h hf hw (b := b) hr 0 (by simp [belN])
      exact belN_up (by have := lev_le hf b; have := sim_len h hk; omega) this
theorem sim_many_in (h : Sim d L) (hk : Okk d) : (rall L true).length = d.ins.length := by
  rw [h.all hk]
  unfold Gr.allIds Gr.ids
  rw [srt_length, List.length_map]
end

/-! What is added is small. -/
def okk (x : Nd) : Prop := x.id.size ≤ 40 ∧ x.par.length ≤ 6 ∧ ∀ p ∈ x.par, p.size ≤ 40
theorem insN_mem {x z : Nd} {L : List Nd} (h : z ∈ insN x L) : z = x ∨ z ∈ L := by
  induction L with
  | nil => left; simpa [insN] using h
  | cons y r ih =>
    unfold insN at h
    split at h
    · rcases List.mem_cons.1 h with h | h
      · exact .inl h
      · exact .inr h
    · rcases List.mem_cons.1 h with h | h
      · exact .inr (by rw [h]; exact List.mem_cons_self ..)
      · rcases ih h with h | h
        · exact .inl h
        · exact .inr (List.mem_cons_of_mem _ h)
theorem settle_okk (m : Nat) : ∀ (L : List Nd) (out : List Nm), (∀ n ∈ L, okk n) → (∀ n ∈ (rsettle m L out).1, okk n) ∧ (rsettle m L out).1.length = L.length := by
  induction m with
  | zero => exact fun L out h => ⟨h, rfl⟩
  | succ m ih =>
    intro L out h
    unfold rsettle
    split
    · exact ⟨h, rfl⟩
    · rename_i k _
      split
      · rename_i n hn
        have h1 := ih (L.set k ⟨n.id, n.par, true⟩) (out ++ [n.id]) (fun z hz => by
          rcases List.mem_or_eq_of_mem_set hz with hz | rfl
          · exact h z hz
          · exact h n (List.mem_of_getElem? hn))
        rw [List.length_set] at h1
        exact h1
      · exact ⟨h, rfl⟩
theorem own_small (ps : List Nm) : (putAll [] ps).length ≤ ps.length ∧ ∀ p ∈ putAll [] ps, p ∈ ps := by
  refine ⟨?_, fun p hp => ?_⟩
  · rw [sorted_alike]
    exact Nat.le_trans (uniq_length _) (Nat.le_of_eq (srt_length _))
  · rcases (mem_putAll _ _).1 hp with h | h
    · cases h
    · exact h
theorem radd_okk {L : List Nd} {x : Nm} {ps : List Nm} (h : ∀ n ∈ L, okk n) (h1 : x.size ≤ 40) (h2 : ps.length ≤ 6) (h3 : ∀ p ∈ ps, p.size ≤ 40) : (∀ n ∈ (radd L x ps).1, okk n) ∧ (radd L x ps).1.length ≤ L.length + 1 := by
  have ho := own_small ps
  have hx : ∀ b, okk ⟨x, putAll [] ps, b⟩ := fun b => ⟨h1, Nat.le_trans ho.1 h2, fun p hp => h3 p (ho.2 p hp)⟩
  have hi : ∀ b, ∀ n ∈ insN ⟨x, putAll [] ps, b⟩ L, okk n := fun b n hn => by
    rcases insN_mem hn with rfl | hn
    · exact hx b
    · exact h n hn
  unfold radd
  split
  · exact ⟨h, Nat.le_succ _⟩
  · split
    · have := settle_okk (cnt (insN ⟨x, putAll [] ps, true⟩ L)) _ [x] (hi true)
      exact ⟨this.1, by rw [this.2, insN_len]; omega⟩
    · exact ⟨hi false, by rw [insN_len]; omega⟩
theorem rgraph_sm {l : List Nd} (h : few l = true) : ∀ k, k ≤ l.length → Sm (rgraph (l.take k)) ∧ (rgraph (l.take k)).length ≤ k := by
  have h0 : ∀ k, k ≤ l.length → (∀ n ∈ rgraph (l.take k), okk n) ∧ (rgraph (l.take k)).length ≤ k := by
    intro k
    induction k with
    | zero => intro _; exact ⟨fun n hn => by simp [rgraph] at hn, by simp [rgraph]⟩
    | succ k ih =>
      intro hk
      obtain ⟨h1, h2⟩ := ih (by omega)
      obtain ⟨a1, a2, a3⟩ := okN_all h k (by omega)
      rw [rgraph_next l k (by omega)]
      have := radd_okk h1 a1 a2 a3
      exact ⟨this.1, by omega⟩
  intro k hk
  obtain ⟨h1, h2⟩ := h0 k hk
  have := few_len h
  exact ⟨⟨by omega, fun n hn => (h1 n hn).1, fun n hn => (h1 n hn).2.1, fun n hn => (h1 n hn).2.2⟩, h2⟩
end Go.Proofs.Ytlmcbmgdhpoedaa.Fn
