/- Regions, by lists: what each one is, and that they lie one behind the other. -/
import Derived.Test.YtekeiieefkgopaaDoorPa
import Derived.Test.YtekeiieefkgopaaDoorNh
namespace Go.Proofs.YtekeiieefkgopaaDoor.Pb
open Go.Proofs.YtekeiieefkgopaaDoor.Mc Go.Proofs.YtekeiieefkgopaaDoor.Mg Go.Proofs.YtekeiieefkgopaaDoor.Mi Go.Proofs.YtekeiieefkgopaaDoor.Na Go.Proofs.YtekeiieefkgopaaDoor.Nb Go.Proofs.YtekeiieefkgopaaDoor.Nc Go.Proofs.YtekeiieefkgopaaDoor.Nf Go.Proofs.YtekeiieefkgopaaDoor.Nh Go.Proofs.YtekeiieefkgopaaDoor.Pa
set_option linter.unusedVariables false
set_option linter.unusedSimpArgs false

/-- No edit begins ahead of a place. -/
def Far (q : Nat) (es : List EditP) : Prop := ∀ e ∈ es.head?, q ≤ e.at_
theorem Far.cons {q : Nat} {e : EditP} {es : List EditP} : Far q (e :: es) ↔ q ≤ e.at_ := by simp [Far]
theorem Far.mono {q q' : Nat} {es : List EditP} (h : Far q es) (hq : q' ≤ q) : Far q' es := fun e he => Nat.le_trans hq (h e he)
theorem Scr.far {p : Nat} {x y : Ls} {es : List EditP} (h : Scr p x y es) : Far p es := by
  cases es with
  | nil => intro e he; simp at he
  | cons e es => rw [Far.cons]; exact h.1
theorem Scr.adv {p k : Nat} {x y : Ls} {es : List EditP} (h : Scr p x y es) (hk : k ≤ x.length) (hf : Far (p + k) es) :
    x.take k = y.take k ∧ k ≤ y.length ∧ Scr (p + k) (x.drop k) (y.drop k) es := by
  cases es with
  | nil => simp only [Scr] at h ⊢; subst h; exact ⟨rfl, hk, rfl⟩
  | cons e es =>
    rw [Far.cons] at hf
    obtain ⟨h1, h2, ys', h3, h4⟩ := h
    have hl : k ≤ (x.take (e.at_ - p)).length := by rw [List.length_take]; omega
    refine ⟨?_, by rw [h3, List.length_append]; omega, by omega, by rw [List.length_drop]; omega, ys', ?_, ?_⟩
    · rw [h3, List.take_append_of_le_length hl, List.take_take, Nat.min_eq_left (by omega)]
    · rw [h3, List.drop_append_of_le_length hl, List.drop_take, show e.at_ - p - k = e.at_ - (p + k) from by omega]
    · rw [List.drop_drop, show k + (e.at_ - (p + k) + e.del) = e.at_ - p + e.del from by omega]
      exact h4

/-- One side of a cluster in the making. -/
def Sd (p : Nat) (X Y : Ls) (k : Nat) (m : Int) (es : List EditP) : Prop := k ≤ X.length ∧ 0 ≤ (k : Int) + m ∧ (k : Int) + m ≤ Y.length ∧ Scr (p + k) (X.drop k) (Y.drop ((k : Int) + m).toNat) es
theorem Sd.start {p : Nat} {X Y : Ls} {es : List EditP} (h : Scr p X Y es) : Sd p X Y 0 0 es := ⟨by omega, by omega, by simp, by simpa using h⟩
theorem Sd.take {p k : Nat} {X Y : Ls} {m : Int} {e : EditP} {es : List EditP} (h : Sd p X Y k m (e :: es)) :
    p + k ≤ e.at_ ∧ p ≤ e.at_ + e.del ∧ e.at_ + e.del ≤ p + X.length ∧ Sd p X Y (e.at_ + e.del - p) (m + ((e.ins.length : Int) - e.del)) es := by
  obtain ⟨h1, h2, h3, g1, g2, ys', g3, g4⟩ := h
  rw [List.length_drop] at g2
  have hl := congrArg List.length g3
  rw [List.length_drop, List.length_append, List.length_append, List.length_take, List.length_drop] at hl
  refine ⟨g1, by omega, by omega, by omega, by omega, by omega, ?_⟩
  rw [show p + (e.at_ + e.del - p) = e.at_ + e.del from by omega]
  have e1 : X.drop (e.at_ + e.del - p) = (X.drop k).drop (e.at_ - (p + k) + e.del) := by rw [List.drop_drop]; congr 1; omega
  have e2 : Y.drop (((e.at_ + e.del - p : Nat) : Int) + (m + ((e.ins.length : Int) - e.del))).toNat = ys' := by
    have : (((e.at_ + e.del - p : Nat) : Int) + (m + ((e.ins.length : Int) - e.del))).toNat = ((k : Int) + m).toNat + ((e.at_ - (p + k)) + e.ins.length) := by omega
    rw [this, ← List.drop_drop, g3, List.drop_append, List.drop_eq_nil_of_le (by rw [List.length_take]; omega), List.nil_append, List.length_take, List.length_drop]
    rw [show e.at_ - (p + k) + e.ins.length - min (e.at_ - (p + k)) (X.length - k) = e.ins.length from by omega, List.drop_left' rfl]
  rw [e1, e2]
  exact g4
theorem Sd.adv {p k k' : Nat} {X Y : Ls} {m : Int} {es : List EditP} (h : Sd p X Y k m es) (h1 : k ≤ k') (h2 : k' ≤ X.length) (hf : Far (p + k') es) : Sd p X Y k' m es := by
  obtain ⟨g1, g2, g3, g4⟩ := h
  obtain ⟨a1, a2, a3⟩ := Scr.adv (k := k' - k) g4 (by rw [List.length_drop]; omega) (by rw [show p + k + (k' - k) = p + k' from by omega]; exact hf)
  rw [List.length_drop] at a2
  refine ⟨h2, by omega, by omega, ?_⟩
  rw [List.drop_drop, List.drop_drop, show p + k + (k' - k) = p + k' from by omega, show k + (k' - k) = k' from by omega, show ((k : Int) + m).toNat + (k' - k) = ((k' : Int) + m).toNat from by omega] at a3
  exact a3

/-- A cluster in the making. -/
structure Mk (p : Nat) (X YA YB : Ls) (L R : List EditP) (c : Clu) (l r : List EditP) : Prop where
  fr : c.from_ = p
  to1 : p ≤ c.to_
  to2 : c.to_ ≤ p + X.length
  ea : ∃ k, p + k ≤ c.to_ ∧ Sd p X YA k c.m0 l
  eb : ∃ k, p + k ≤ c.to_ ∧ Sd p X YB k c.m1 r
  na : c.h0 = false → l = L ∧ c.m0 = 0
  nb : c.h1 = false → r = R ∧ c.m1 = 0
theorem Mk.take0 {p : Nat} {X YA YB : Ls} {L R : List EditP} {c : Clu} {e : EditP} {l r : List EditP} (h : Mk p X YA YB L R c (e :: l) r) : Mk p X YA YB L R (Clu.add0 c e) l r := by
  obtain ⟨k, hk, hs⟩ := h.ea
  obtain ⟨kb, hkb, hsb⟩ := h.eb
  obtain ⟨s1, s2, s3, s4⟩ := hs.take
  have := h.to1; have := h.to2
  refine ⟨h.fr, ?_, ?_, ⟨e.at_ + e.del - p, ?_, s4⟩, ⟨kb, ?_, hsb⟩, fun hf => ?_, h.nb⟩
  · simp only [Clu.add0, Clu.take0]; omega
  · simp only [Clu.add0, Clu.take0]; omega
  · simp only [Clu.add0, Clu.take0]; omega
  · simp only [Clu.add0, Clu.take0]; omega
  · simp [Clu.add0, Clu.take0] at hf
theorem Mk.take1 {p : Nat} {X YA YB : Ls} {L R : List EditP} {c : Clu} {e : EditP} {l r : List EditP} (h : Mk p X YA YB L R c l (e :: r)) : Mk p X YA YB L R (Clu.add1 c e) l r := by
  obtain ⟨k, hk, hs⟩ := h.ea
  obtain ⟨kb, hkb, hsb⟩ := h.eb
  obtain ⟨s1, s2, s3, s4⟩ := hsb.take
  have := h.to1; have := h.to2
  refine ⟨h.fr, ?_, ?_, ⟨k, ?_, hs⟩, ⟨e.at_ + e.del - p, ?_, s4⟩, h.na, fun hf => ?_⟩
  · simp only [Clu.add1, Clu.take1]; omega
  · simp only [Clu.add1, Clu.take1]; omega
  · simp only [Clu.add1, Clu.take1]; omega
  · simp only [Clu.add1, Clu.take1]; omega
  · simp [Clu.add1, Clu.take1] at hf
theorem meets_mk {p : Nat} {X YA YB : Ls} {L R : List EditP} (c : Clu) (l r : List EditP) (h : Mk p X YA YB L R c l r) :
    Mk p X YA YB L R (meets c l r).1 (meets c l r).2.1 (meets c l r).2.2 ∧ Far ((meets c l r).1.to_ + 1) (meets c l r).2.1 ∧ Far ((meets c l r).1.to_ + 1) (meets c l r).2.2 := by
  induction c, l, r using meets.induct with
  | case1 c e l hc ih => rw [meets, if_pos hc]; exact ih h.take0
  | case2 c e l hc => rw [meets, if_neg hc]; exact ⟨h, by rw [Far.cons]; show c.to_ + 1 ≤ _; omega, fun e he => by simp at he⟩
  | case3 c e l f r hc ih => rw [meets, if_pos hc]; exact ih h.take0
  | case4 c e l f r hc h2 ih => rw [meets, if_neg hc, if_pos h2]; exact ih h.take1
  | case5 c e l f r hc h2 => rw [meets, if_neg hc, if_neg h2]; exact ⟨h, by rw [Far.cons]; show c.to_ + 1 ≤ _; omega, by rw [Far.cons]; show c.to_ + 1 ≤ _; omega⟩
  | case6 c f r hc ih => rw [meets, if_pos hc]; exact ih h.take1
  | case7 c f r hc => rw [meets, if_neg hc]; exact ⟨h, fun e he => by simp at he, by rw [Far.cons]; show c.to_ + 1 ≤ _; omega⟩
  | case8 c => rw [meets]; exact ⟨h, fun e he => by simp at he, fun e he => by simp at he⟩

/-- A cluster: what it is of either side's lines. -/
structure Done (p : Nat) (X YA YB : Ls) (c : Clu) (l r : List EditP) : Prop where
  fr : c.from_ = p
  to1 : p ≤ c.to_
  to2 : c.to_ ≤ p + X.length
  sa : Sd p X YA (c.to_ - p) c.m0 l
  sb : Sd p X YB (c.to_ - p) c.m1 r
  na : c.h0 = false → c.m0 = 0 ∧ X.take (c.to_ - p) = YA.take (c.to_ - p)
  nb : c.h1 = false → c.m1 = 0 ∧ X.take (c.to_ - p) = YB.take (c.to_ - p)
theorem done_of {p : Nat} {X YA YB : Ls} {l r : List EditP} (ha : Scr p X YA l) (hb : Scr p X YB r) :
    Done p X YA YB (meets ⟨p, p, 0, 0, false, false⟩ l r).1 (meets ⟨p, p, 0, 0, false, false⟩ l r).2.1 (meets ⟨p, p, 0, 0, false, false⟩ l r).2.2 := by
  obtain ⟨h, f1, f2⟩ := meets_mk (p := p) (X := X) (YA := YA) (YB := YB) (L := l) (R := r) ⟨p, p, 0, 0, false, false⟩ l r ⟨rfl, Nat.le_refl _, by simp, ⟨0, by simp, Sd.start ha⟩, ⟨0, by simp, Sd.start hb⟩, fun _ => ⟨rfl, rfl⟩, fun _ => ⟨rfl, rfl⟩⟩
  obtain ⟨k, hk, hs⟩ := h.ea
  obtain ⟨kb, hkb, hsb⟩ := h.eb
  have t1 := h.to1; have t2 := h.to2
  refine ⟨h.fr, h.to1, h.to2, hs.adv (by omega) (by omega) (f1.mono (by omega)), hsb.adv (by omega) (by omega) (f2.mono (by omega)), fun hf => ?_, fun hf => ?_⟩
  · obtain ⟨e1, e2⟩ := h.na hf
    refine ⟨e2, (Scr.adv ha (by omega) ?_).1⟩
    rw [e1] at f1
    exact f1.mono (by omega)
  · obtain ⟨e1, e2⟩ := h.nb hf
    refine ⟨e2, (Scr.adv hb (by omega) ?_).1⟩
    rw [e1] at f2
    exact f2.mono (by omega)
theorem startAt_far {p : Nat} {l r : List EditP} (hl : Far p l) (hr : Far p r) (h : ¬ (l = [] ∧ r = [])) : p ≤ startAt l r ∧ Far (startAt l r) l ∧ Far (startAt l r) r := by
  cases l with
  | nil =>
    cases r with
    | nil => exact absurd ⟨rfl, rfl⟩ h
    | cons f r => rw [Far.cons] at *; exact ⟨hr, fun e he => by simp at he, Nat.le_refl _⟩
  | cons e l =>
    cases r with
    | nil => rw [Far.cons] at hl; rw [Far.cons]; exact ⟨hl, Nat.le_refl _, fun e he => by simp at he⟩
    | cons f r =>
      rw [Far.cons] at *
      simp only [startAt]
      rw [Far.cons]
      split <;> omega

end Go.Proofs.YtekeiieefkgopaaDoor.Pb
