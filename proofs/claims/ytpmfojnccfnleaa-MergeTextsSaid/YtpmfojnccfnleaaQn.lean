/- A cluster by the sweep is what its first edit leads to. -/
import Derived.Test.YtpmfojnccfnleaaPh
import Derived.Test.YtpmfojnccfnleaaQm
namespace Go.Proofs.Ytpmfojnccfnleaa.Qn
open Go.Proofs.Ytpmfojnccfnleaa.Me Go.Proofs.Ytpmfojnccfnleaa.Mf Go.Proofs.Ytpmfojnccfnleaa.Mg Go.Proofs.Ytpmfojnccfnleaa.Mh Go.Proofs.Ytpmfojnccfnleaa.Mi Go.Proofs.Ytpmfojnccfnleaa.Na Go.Proofs.Ytpmfojnccfnleaa.Nb Go.Proofs.Ytpmfojnccfnleaa.Nc Go.Proofs.Ytpmfojnccfnleaa.Pa Go.Proofs.Ytpmfojnccfnleaa.Ph Go.Proofs.Ytpmfojnccfnleaa.Qm
set_option linter.unusedVariables false
set_option linter.unusedSimpArgs false

def Meet (e f : EditP) : Prop := e.at_ ≤ f.at_ + f.del ∧ f.at_ ≤ e.at_ + e.del
theorem fold_swap (f : EditP) : ∀ (T : List EditP) (c : Clu), T.foldl Clu.add0 (Clu.add1 c f) = Clu.add1 (T.foldl Clu.add0 c) f
  | [], c => rfl
  | e :: T, c => by
    rw [List.foldl_cons, List.foldl_cons, ← add_comm, fold_swap f T]
/-- What a cluster takes. -/
structure Took (c c' : Clu) (L R L' R' T0 T1 : List EditP) : Prop where
  l : L = T0 ++ L'
  r : R = T1 ++ R'
  fold : c' = T1.foldl Clu.add1 (T0.foldl Clu.add0 c)
  hl : ∀ e ∈ L'.head?, c'.to_ < e.at_
  hr : ∀ e ∈ R'.head?, c'.to_ < e.at_
  to_ : c.to_ ≤ c'.to_
  en : ∀ e ∈ T0 ++ T1, e.at_ + e.del ≤ c'.to_
  fr : c'.from_ = c.from_
  all : ∀ S : EditP → Prop, (∀ e ∈ L ++ R, c.from_ ≤ e.at_) → (∀ f ∈ L ++ R, ∀ g, S g → Meet f g → S f) → (∀ x, c.from_ ≤ x → x ≤ c.to_ → ∃ g, S g ∧ g.at_ ≤ x ∧ x ≤ g.at_ + g.del) → ∀ e ∈ T0 ++ T1, S e

theorem cover_more {S : EditP → Prop} {c : Clu} {e : EditP} {t : Nat} (hfrom : c.from_ ≤ e.at_) (hto : e.at_ ≤ c.to_) (hS : ∀ g, S g → Meet e g → S e) (hc : ∀ x, c.from_ ≤ x → x ≤ c.to_ → ∃ g, S g ∧ g.at_ ≤ x ∧ x ≤ g.at_ + g.del) (ht : t = max c.to_ (e.at_ + e.del)) :
    S e ∧ ∀ x, c.from_ ≤ x → x ≤ t → ∃ g, S g ∧ g.at_ ≤ x ∧ x ≤ g.at_ + g.del := by
  obtain ⟨g, g1, g2, g3⟩ := hc e.at_ hfrom hto
  have he : S e := hS g g1 ⟨g3, by omega⟩
  refine ⟨he, fun x h1 h2 => ?_⟩
  by_cases hx : x ≤ c.to_
  · exact hc x h1 hx
  · exact ⟨e, he, by omega, by omega⟩
theorem Took.none (c : Clu) (L R : List EditP) (h1 : ∀ e ∈ L.head?, c.to_ < e.at_) (h2 : ∀ e ∈ R.head?, c.to_ < e.at_) : Took c c L R L R [] [] :=
  ⟨rfl, rfl, rfl, h1, h2, Nat.le_refl _, by simp, rfl, by simp⟩
theorem Took.add0 {c c' : Clu} {e : EditP} {L R L' R' T0 T1 : List EditP} (he : e.at_ ≤ c.to_) (h : Took (Clu.add0 c e) c' L R L' R' T0 T1) : Took c c' (e :: L) R L' R' (e :: T0) T1 := by
  refine ⟨by rw [h.l]; rfl, h.r, by rw [h.fold]; rfl, h.hl, h.hr, Nat.le_trans (add0_to c e) h.to_, ?_, h.fr, ?_⟩
  · intro x hx
    rcases List.mem_cons.1 hx with rfl | hx
    · have := h.to_; simp only [Clu.add0, Clu.take0] at this; omega
    · exact h.en x hx
  · intro S h1 h2 h3
    obtain ⟨hs, hc⟩ := cover_more (t := (Clu.add0 c e).to_) (h1 e (List.mem_cons_self ..)) he (h2 e (List.mem_cons_self ..)) h3 rfl
    have := h.all S (fun f hf => h1 f (List.mem_cons_of_mem _ hf)) (fun f hf => h2 f (List.mem_cons_of_mem _ hf)) hc
    intro x hx
    rcases List.mem_cons.1 hx with rfl | hx
    · exact hs
    · exact this x hx
theorem Took.add1 {c c' : Clu} {f : EditP} {L R L' R' T0 T1 : List EditP} (he : f.at_ ≤ c.to_) (h : Took (Clu.add1 c f) c' L R L' R' T0 T1) : Took c c' L (f :: R) L' R' T0 (f :: T1) := by
  refine ⟨h.l, by rw [h.r]; rfl, by rw [h.fold, fold_swap]; rfl, h.hl, h.hr, Nat.le_trans (add1_to c f) h.to_, ?_, h.fr, ?_⟩
  · intro x hx
    have hx2 : x = f ∨ x ∈ T0 ++ T1 := by simp at hx ⊢; rcases hx with h | h | h <;> simp [h]
    rcases hx2 with rfl | hx
    · have := h.to_; simp only [Clu.add1, Clu.take1] at this; omega
    · exact h.en x hx
  · intro S h1 h2 h3
    have hm : f ∈ L ++ f :: R := by simp
    have hmm : ∀ g ∈ L ++ R, g ∈ L ++ f :: R := fun g hg => by simp at hg ⊢; rcases hg with h | h <;> simp [h]
    obtain ⟨hs, hc⟩ := cover_more (t := (Clu.add1 c f).to_) (h1 f hm) he (h2 f hm) h3 rfl
    have := h.all S (fun g hg => h1 g (hmm g hg)) (fun g hg => h2 g (hmm g hg)) hc
    intro x hx
    have hx2 : x = f ∨ x ∈ T0 ++ T1 := by simp at hx ⊢; rcases hx with h | h | h <;> simp [h]
    rcases hx2 with rfl | hx
    · exact hs
    · exact this x hx
theorem meets_took (c : Clu) (L R : List EditP) : ∃ T0 T1, Took c (meets c L R).1 L R (meets c L R).2.1 (meets c L R).2.2 T0 T1 := by
  induction c, L, R using meets.induct with
  | case1 c e l h ih => obtain ⟨T0, T1, ih⟩ := ih; rw [meets, if_pos h]; exact ⟨_, _, ih.add0 h⟩
  | case2 c e l h => rw [meets, if_neg h]; exact ⟨_, _, Took.none _ _ _ (by simp; omega) (by simp)⟩
  | case3 c e l f r h ih => obtain ⟨T0, T1, ih⟩ := ih; rw [meets, if_pos h]; exact ⟨_, _, ih.add0 h⟩
  | case4 c e l f r h h2 ih => obtain ⟨T0, T1, ih⟩ := ih; rw [meets, if_neg h, if_pos h2]; exact ⟨_, _, ih.add1 h2⟩
  | case5 c e l f r h h2 => rw [meets, if_neg h, if_neg h2]; exact ⟨_, _, Took.none _ _ _ (by simp; omega) (by simp; omega)⟩
  | case6 c f r h ih => obtain ⟨T0, T1, ih⟩ := ih; rw [meets, if_pos h]; exact ⟨_, _, ih.add1 h⟩
  | case7 c f r h => rw [meets, if_neg h]; exact ⟨_, _, Took.none _ _ _ (by simp) (by simp; omega)⟩
  | case8 c => rw [meets]; exact ⟨_, _, Took.none _ _ _ (by simp) (by simp)⟩

/-- Places and ends, by number. -/
def atF (es : List EditP) (i : Nat) : Nat := ((es[i]?).map (·.at_)).getD 0
def enF (es : List EditP) (i : Nat) : Nat := ((es[i]?).map (fun e => e.at_ + e.del)).getD 0
def meetB (es : List EditP) (i k : Nat) : Bool := decide (atF es i ≤ enF es k) && decide (atF es k ≤ enF es i)
theorem meet_sym (es : List EditP) (i k : Nat) : meetB es i k = meetB es k i := Bool.and_comm ..
theorem atF_of {es : List EditP} {i : Nat} {e : EditP} (h : es[i]? = some e) : atF es i = e.at_ ∧ enF es i = e.at_ + e.del := by unfold atF enF; rw [h]; exact ⟨rfl, rfl⟩
/-- What was taken; what a cluster takes. -/
def Used (nl p q i : Nat) : Prop := i < p ∨ (nl ≤ i ∧ i < nl + q)
def Clus (nl p q p' q' i : Nat) : Prop := (p ≤ i ∧ i < p') ∨ (nl + q ≤ i ∧ i < nl + q')
/-- All that were taken end ahead of all others. -/
def Sep (es : List EditP) (nl p q : Nat) : Prop := ∀ i k, i < es.length → k < es.length → Used nl p q i → ¬ Used nl p q k → enF es i < atF es k
theorem Sep.start (es : List EditP) (nl : Nat) : Sep es nl 0 0 := fun i k _ _ h _ => by unfold Used at h; omega

theorem apart_drop {l : List EditP} (h : Apart l) {p i : Nat} {e f : EditP} (he : l[p]? = some e) (hf : l[i]? = some f) (hpi : p < i) : e.at_ + e.del < f.at_ := by
  have h1 := List.pairwise_iff_getElem.1 h p i (List.getElem?_eq_some_iff.1 he).1 (List.getElem?_eq_some_iff.1 hf).1 hpi
  rw [(List.getElem?_eq_some_iff.1 he).2, (List.getElem?_eq_some_iff.1 hf).2] at h1
  exact h1
theorem apart_head {l : List EditP} (h : Apart l) {p i t : Nat} {f : EditP} (hh : ∀ e ∈ (l.drop p).head?, t < e.at_) (hf : l[i]? = some f) (hpi : p ≤ i) : t < f.at_ := by
  have hi := (List.getElem?_eq_some_iff.1 hf).1
  have hp : l[p]? = some l[p] := List.getElem?_eq_getElem (by omega)
  have h0 := hh l[p] (by rw [List.head?_drop, hp]; rfl)
  by_cases e : p = i
  · subst e; rw [hp] at hf; injection hf with hf; subst hf; exact h0
  · have := apart_drop h hp hf (by omega); omega
theorem start_le {L R : List EditP} (hL : Apart L) (hR : Apart R) : ∀ e ∈ L ++ R, startAt L R ≤ e.at_ := by
  have key : ∀ (X : List EditP), Apart X → ∀ a X', X = a :: X' → ∀ e ∈ X, a.at_ ≤ e.at_ := by
    rintro X hX a X' rfl e he
    rcases List.mem_cons.1 he with rfl | he
    · exact Nat.le_refl _
    · have := (List.pairwise_cons.1 hX).1 e he; omega
  intro e he
  rcases List.mem_append.1 he with he | he
  · cases L with
    | nil => simp at he
    | cons a l =>
      have := key _ hL a l rfl e he
      cases R with
      | nil => exact this
      | cons b r => simp only [startAt]; split <;> omega
  · cases R with
    | nil => simp at he
    | cons b r =>
      have := key _ hR b r rfl e he
      cases L with
      | nil => exact this
      | cons a l => simp only [startAt]; split <;> omega

/-- A ROUND: the cluster takes just those to which its first edit leads. -/
structure Round (l r : List EditP) (p q p' q' : Nat) (c : Clu) : Prop where
  pp : p ≤ p'
  pl : p' ≤ l.length
  qq : q ≤ q'
  ql : q' ≤ r.length
  eq : firstC (l.drop p) (r.drop q) = (c, l.drop p', r.drop q')
  fold : c = ((r.drop q).take (q' - q)).foldl Clu.add1 (((l.drop p).take (p' - p)).foldl Clu.add0 ⟨startAt (l.drop p) (r.drop q), startAt (l.drop p) (r.drop q), 0, 0, false, false⟩)
  sep : Sep (l ++ r) l.length p' q'
  conn : ∀ f0, f0 < (l ++ r).length → ¬ Used l.length p q f0 → atF (l ++ r) f0 = startAt (l.drop p) (r.drop q) → ∀ i, i < (l ++ r).length → (Conn (l ++ r).length (meetB (l ++ r)) i f0 ↔ Clus l.length p q p' q' i)
  fr : c.from_ = startAt (l.drop p) (r.drop q)
  to_ : c.from_ ≤ c.to_
  en : ∀ i, i < (l ++ r).length → Clus l.length p q p' q' i → enF (l ++ r) i ≤ c.to_

theorem round_of (l r : List EditP) (hl : Apart l) (hr : Apart r) (p q : Nat) (hp : p ≤ l.length) (hq : q ≤ r.length) (hs : Sep (l ++ r) l.length p q) :
    ∃ p' q' c, Round l r p q p' q' c := by
  obtain ⟨T0, T1, h⟩ := meets_took ⟨startAt (l.drop p) (r.drop q), startAt (l.drop p) (r.drop q), 0, 0, false, false⟩ (l.drop p) (r.drop q)
  obtain ⟨s, hst⟩ : ∃ s, startAt (l.drop p) (r.drop q) = s := ⟨_, rfl⟩
  rw [hst] at h
  have he : firstC (l.drop p) (r.drop q) = meets ⟨s, s, 0, 0, false, false⟩ (l.drop p) (r.drop q) := by unfold firstC; rw [hst]
  obtain ⟨⟨c, L', R'⟩, hm⟩ : ∃ x, meets ⟨s, s, 0, 0, false, false⟩ (l.drop p) (r.drop q) = x := ⟨_, rfl⟩
  rw [hm] at h he
  simp only at h
  have hl1 := congrArg List.length h.l
  have hr1 := congrArg List.length h.r
  rw [List.length_drop, List.length_append] at hl1 hr1
  have hL' : L' = l.drop (p + T0.length) := by rw [← List.drop_drop, h.l, List.drop_left]
  have hR' : R' = r.drop (q + T1.length) := by rw [← List.drop_drop, h.r, List.drop_left]
  have hT0 : (l.drop p).take T0.length = T0 := by rw [h.l, List.take_left]
  have hT1 : (r.drop q).take T1.length = T1 := by rw [h.r, List.take_left]
  have hll : (l ++ r).length = l.length + r.length := List.length_append
  have hgl : ∀ i, i < l.length → (l ++ r)[i]? = l[i]? := fun i hi => List.getElem?_append_left hi
  have hgr : ∀ i, l.length ≤ i → (l ++ r)[i]? = r[i - l.length]? := fun i hi => List.getElem?_append_right hi
  -- what is in the cluster
  have hin : ∀ i, i < (l ++ r).length → Clus l.length p q (p + T0.length) (q + T1.length) i → ∃ e, (l ++ r)[i]? = some e ∧ e ∈ T0 ++ T1 := by
    intro i hi hc
    rcases hc with ⟨h1, h2⟩ | ⟨h1, h2⟩
    · have hil : i < l.length := by omega
      refine ⟨l[i], by rw [hgl i hil]; exact List.getElem?_eq_getElem hil, List.mem_append_left _ ?_⟩
      have e1 : T0[i - p]? = some l[i] := by
        rw [← hT0, List.getElem?_take, if_pos (by omega), List.getElem?_drop, show p + (i - p) = i by omega]
        exact List.getElem?_eq_getElem hil
      exact List.mem_of_getElem? e1
    · have hir : i - l.length < r.length := by omega
      refine ⟨r[i - l.length], by rw [hgr i (by omega)]; exact List.getElem?_eq_getElem hir, List.mem_append_right _ ?_⟩
      have e1 : T1[i - l.length - q]? = some r[i - l.length] := by
        rw [← hT1, List.getElem?_take, if_pos (by omega), List.getElem?_drop, show q + (i - l.length - q) = i - l.length by omega]
        exact List.getElem?_eq_getElem hir
      exact List.mem_of_getElem? e1
  have hout : ∀ i, i < (l ++ r).length → ¬ Used l.length (p + T0.length) (q + T1.length) i → c.to_ < atF (l ++ r) i := by
    intro i hi hu
    unfold Used at hu
    by_cases hil : i < l.length
    · have e0 := hgl i hil
      rw [List.getElem?_eq_getElem hil] at e0
      rw [(atF_of e0).1]
      exact apart_head hl (p := p + T0.length) (by rw [← hL']; exact h.hl) (List.getElem?_eq_getElem hil) (by omega)
    · have e0 := hgr i (by omega)
      have hir : i - l.length < r.length := by omega
      rw [List.getElem?_eq_getElem hir] at e0
      rw [(atF_of e0).1]
      exact apart_head hr (p := q + T1.length) (by rw [← hR']; exact h.hr) (List.getElem?_eq_getElem hir) (by omega)
  have hen : ∀ i, i < (l ++ r).length → Clus l.length p q (p + T0.length) (q + T1.length) i → enF (l ++ r) i ≤ c.to_ := by
    intro i hi hc
    obtain ⟨e, e1, e2⟩ := hin i hi hc
    rw [(atF_of e1).2]
    exact h.en e e2
  have hcov : ∀ i, Used l.length (p + T0.length) (q + T1.length) i → ¬ Used l.length p q i → Clus l.length p q (p + T0.length) (q + T1.length) i := by
    intro i h1 h2; unfold Used at h1 h2; unfold Clus; omega
  have hnu : ∀ i, Clus l.length p q (p + T0.length) (q + T1.length) i → ¬ Used l.length p q i := by
    intro i h1 h2; unfold Used at h2; unfold Clus at h1; omega
  have hal : Apart (l.drop p) := List.Pairwise.sublist (List.drop_sublist ..) hl
  have har : Apart (r.drop q) := List.Pairwise.sublist (List.drop_sublist ..) hr
  have hst2 := start_le hal har
  rw [hst] at hst2
  have hsa : ∀ i, i < (l ++ r).length → ¬ Used l.length p q i → s ≤ atF (l ++ r) i := by
    intro i hi hu
    unfold Used at hu
    by_cases hil : i < l.length
    · have e0 := hgl i hil
      rw [List.getElem?_eq_getElem hil] at e0
      rw [(atF_of e0).1]
      exact hst2 _ (List.mem_append_left _ (List.mem_of_getElem? (i := i - p) (by rw [List.getElem?_drop, show p + (i - p) = i by omega]; exact List.getElem?_eq_getElem hil)))
    · have e0 := hgr i (by omega)
      have hir : i - l.length < r.length := by omega
      rw [List.getElem?_eq_getElem hir] at e0
      rw [(atF_of e0).1]
      exact hst2 _ (List.mem_append_right _ (List.mem_of_getElem? (i := i - l.length - q) (by rw [List.getElem?_drop, show q + (i - l.length - q) = i - l.length by omega]; exact List.getElem?_eq_getElem hir)))
  refine ⟨p + T0.length, q + T1.length, c, by omega, by omega, by omega, by omega, by rw [he, hL', hR'], ?_, ?_, ?_, ?_, ?_, hen⟩
  · rw [hst, show p + T0.length - p = T0.length by omega, show q + T1.length - q = T1.length by omega, hT0, hT1]; exact h.fold
  · intro i k hi hk hui huk
    by_cases hu : Used l.length p q i
    · exact hs i k hi hk hu (fun hx => huk (by unfold Used at hx ⊢; omega))
    · have := hen i hi (hcov i hui hu)
      have := hout k hk huk
      omega
  · rw [hst]
    intro f0 hf0 hu0 hat i hi
    have hto : s ≤ c.to_ := h.to_
    constructor
    · intro hc
      have hS := hc (fun x => x < (l ++ r).length ∧ Clus l.length p q (p + T0.length) (q + T1.length) x) (fun a b ha hb hm => by
        have sym : ∀ a b, a < (l ++ r).length → b < (l ++ r).length → meetB (l ++ r) a b = true → Clus l.length p q (p + T0.length) (q + T1.length) a → Clus l.length p q (p + T0.length) (q + T1.length) b := by
          intro a b ha hb hm hca
          have hea := hen a ha hca
          have hua := hnu a hca
          have hsa' := hsa a ha hua
          unfold meetB at hm
          simp only [Bool.and_eq_true, decide_eq_true_eq] at hm
          by_cases hub : Used l.length p q b
          · have := hs b a hb ha hub hua; omega
          · by_cases hub2 : Used l.length (p + T0.length) (q + T1.length) b
            · exact hcov b hub2 hub
            · have := hout b hb hub2; omega
        exact ⟨fun hx => ⟨hb, sym a b ha hb hm hx.2⟩, fun hx => ⟨ha, sym b a hb ha (by rw [meet_sym]; exact hm) hx.2⟩⟩)
      refine (hS.2 ⟨hf0, hcov f0 ?_ hu0⟩).2
      by_cases hx : Used l.length (p + T0.length) (q + T1.length) f0
      · exact hx
      · have := hout f0 hf0 hx; omega
    · intro hc S hS
      obtain ⟨e, e1, e2⟩ := hin i hi hc
      obtain ⟨g, hg⟩ : ∃ g, (l ++ r)[f0]? = some g := ⟨_, List.getElem?_eq_getElem hf0⟩
      have hgat := (atF_of hg).1
      -- either way round
      have key : ∀ S : Nat → Prop, (∀ a b, a < (l ++ r).length → b < (l ++ r).length → meetB (l ++ r) a b = true → (S a ↔ S b)) → S f0 → S i := by
        intro S hS h0
        have hidx : ∀ f ∈ l.drop p ++ r.drop q, ∃ j : Nat, (l ++ r)[j]? = some f := by
          intro f hf
          have : f ∈ l ++ r := by
            rcases List.mem_append.1 hf with hf | hf
            · exact List.mem_append_left _ (List.mem_of_mem_drop hf)
            · exact List.mem_append_right _ (List.mem_of_mem_drop hf)
          exact List.getElem?_of_mem this
        have := h.all (fun e => ∃ j : Nat, (l ++ r)[j]? = some e ∧ S j) hst2 (fun f hf g' hg' hm => by
          obtain ⟨j, j1, j2⟩ := hg'
          obtain ⟨k, hk⟩ := hidx f hf
          refine ⟨k, hk, ?_⟩
          have hjl := (List.getElem?_eq_some_iff.1 j1).1
          have hkl := (List.getElem?_eq_some_iff.1 hk).1
          refine (hS j k hjl hkl ?_).1 j2
          unfold meetB
          rw [(atF_of j1).1, (atF_of j1).2, (atF_of hk).1, (atF_of hk).2]
          simp only [Bool.and_eq_true, decide_eq_true_eq]
          exact ⟨hm.2, hm.1⟩) (fun x h1 h2 => ⟨g, ⟨f0, hg, h0⟩, by simp only at h1 h2; omega, by simp only at h1 h2; omega⟩) e e2
        obtain ⟨j, j1, j2⟩ := this
        have hjl := (List.getElem?_eq_some_iff.1 j1).1
        refine (hS j i hjl hi ?_).1 j2
        unfold meetB
        rw [(atF_of j1).1, (atF_of j1).2, (atF_of e1).1, (atF_of e1).2]
        simp
      constructor
      · intro hi'
        by_cases h0 : S f0
        · exact h0
        · have := key (fun x => ¬ S x) (fun a b ha hb hm => not_congr (hS a b ha hb hm)) h0
          exact absurd hi' this
      · exact key S hS
  · rw [hst]; exact h.fr
  · have := h.to_; rw [h.fr]; exact this
end Go.Proofs.Ytpmfojnccfnleaa.Qn
