/- Marks that are brought together, turn by turn, are alike just where one leads to the other. -/
import Derived.Test.YtpmfojnccfnleaaAa
namespace Go.Proofs.Ytpmfojnccfnleaa.Qm
set_option linter.unusedVariables false

/-- One leads to the other, by pairs that meet. -/
def Conn (n : Nat) (M : Nat → Nat → Bool) (i j : Nat) : Prop := ∀ S : Nat → Prop, (∀ a b, a < n → b < n → M a b = true → (S a ↔ S b)) → (S i ↔ S j)
theorem Conn.refl {n : Nat} {M : Nat → Nat → Bool} (i : Nat) : Conn n M i i := fun _ _ => Iff.rfl
theorem Conn.symm {n : Nat} {M : Nat → Nat → Bool} {i j : Nat} (h : Conn n M i j) : Conn n M j i := fun S hS => (h S hS).symm
theorem Conn.trans {n : Nat} {M : Nat → Nat → Bool} {i j k : Nat} (h : Conn n M i j) (h' : Conn n M j k) : Conn n M i k := fun S hS => (h S hS).trans (h' S hS)
theorem Conn.one {n : Nat} {M : Nat → Nat → Bool} {i j : Nat} (hi : i < n) (hj : j < n) (h : M i j = true) : Conn n M i j := fun S hS => hS i j hi hj h

def upd (f : Nat → Nat) (i v : Nat) : Nat → Nat := fun a => if a = i then v else f a
/-- A turn, up to a pair. -/
structure Turn (n : Nat) (M : Nat → Nat → Bool) (f0 f : Nat → Nat) (i k : Nat) : Prop where
  le : ∀ a, a < n → f a ≤ f0 a
  co : ∀ a, a < n → f a < n ∧ Conn n M a (f a)
  dn : ∀ a b, a < n → b < n → (a < i ∨ a = i ∧ b < k) → M a b = true → f a ≤ f0 b
theorem Turn.yes {n : Nat} {M : Nat → Nat → Bool} {f0 f : Nat → Nat} {i k : Nat} (h : Turn n M f0 f i k) (hi : i < n) (hk : k < n) (hm : M i k = true) : Turn n M f0 (upd f i (min (f i) (f k))) i (k + 1) := by
  refine ⟨fun a ha => ?_, fun a ha => ?_, fun a b ha hb hab hmab => ?_⟩
  · unfold upd; split
    · subst_vars; have := h.le _ ha; omega
    · exact h.le a ha
  · unfold upd; split
    · subst_vars
      by_cases hc : f a ≤ f k
      · rw [Nat.min_eq_left hc]; exact h.co _ ha
      · rw [Nat.min_eq_right (by omega)]; exact ⟨(h.co k hk).1, (Conn.one ha hk hm).trans (h.co k hk).2⟩
    · exact h.co a ha
  · unfold upd; split
    · subst_vars
      by_cases hb' : b < k
      · have := h.dn a b ha hb (.inr ⟨rfl, hb'⟩) hmab; omega
      · have : b = k := by omega
        subst this
        have := h.le b hb; omega
    · rename_i hne
      exact h.dn a b ha hb (by omega) hmab
theorem Turn.no {n : Nat} {M : Nat → Nat → Bool} {f0 f : Nat → Nat} {i k : Nat} (h : Turn n M f0 f i k) (hm : M i k = false) : Turn n M f0 f i (k + 1) := by
  refine ⟨h.le, h.co, fun a b ha hb hab hmab => ?_⟩
  by_cases he : a = i ∧ b = k
  · obtain ⟨rfl, rfl⟩ := he; rw [hm] at hmab; cases hmab
  · exact h.dn a b ha hb (by omega) hmab
theorem Turn.row {n : Nat} {M : Nat → Nat → Bool} {f0 f : Nat → Nat} {i k : Nat} (h : Turn n M f0 f i k) (hk : n ≤ k) : Turn n M f0 f (i + 1) 0 :=
  ⟨h.le, h.co, fun a b ha hb hab hmab => h.dn a b ha hb (by omega) hmab⟩

/-- Behind so many turns. -/
def After (n : Nat) (M : Nat → Nat → Bool) : Nat → (Nat → Nat) → Prop
  | 0, f => ∀ a, a < n → f a = a
  | t + 1, f => ∃ f0, After n M t f0 ∧ Turn n M f0 f n 0
theorem After.co {n : Nat} {M : Nat → Nat → Bool} : ∀ {t : Nat} {f : Nat → Nat}, After n M t f → ∀ a, a < n → f a < n ∧ Conn n M a (f a) ∧ f a ≤ a
  | 0, f, h, a, ha => by rw [h a ha]; exact ⟨ha, Conn.refl a, Nat.le_refl a⟩
  | t + 1, f, ⟨f0, h0, h⟩, a, ha => ⟨(h.co a ha).1, (h.co a ha).2, by have := h.le a ha; have := (After.co h0 a ha).2.2; omega⟩
theorem After.turn {n : Nat} {M : Nat → Nat → Bool} {t : Nat} {f : Nat → Nat} (h : After n M t f) : Turn n M f f 0 0 :=
  ⟨fun _ _ => Nat.le_refl _, fun a ha => ⟨(h.co a ha).1, (h.co a ha).2.1⟩, fun a b _ _ hab => by omega⟩

theorem count_more {α : Type} (p q : α → Bool) : ∀ (l : List α), (∀ x ∈ l, p x = true → q x = true) → (∃ x ∈ l, p x = false ∧ q x = true) → l.countP p + 1 ≤ l.countP q
  | [], _, h => by obtain ⟨x, hx, _⟩ := h; simp at hx
  | a :: l, h, ⟨x, hx, hp, hq⟩ => by
    have hle : ∀ (l : List α), (∀ x ∈ l, p x = true → q x = true) → l.countP p ≤ l.countP q := fun l h => List.countP_mono_left h
    have ht : ∀ x ∈ l, p x = true → q x = true := fun x hx => h x (List.mem_cons_of_mem _ hx)
    rw [List.countP_cons, List.countP_cons]
    by_cases hxa : x = a
    · subst hxa
      have := hle l ht
      simp [hp, hq]; omega
    · have hxl : x ∈ l := (List.mem_cons.1 hx).elim (fun h => absurd h hxa) id
      have ih := count_more p q l ht ⟨x, hxl, hp, hq⟩
      have ha := h a (List.mem_cons_self ..)
      cases hpa : p a with
      | true => simp [ha hpa]; omega
      | false => cases q a <;> simp <;> omega

theorem least (P : Nat → Prop) (i : Nat) (h : P i) : ∃ j, P j ∧ ∀ a, P a → j ≤ a := by
  induction i using Nat.strongRecOn with
  | ind i ih =>
    by_cases hx : ∃ a, a < i ∧ P a
    · obtain ⟨a, ha, hp⟩ := hx; exact ih a ha hp
    · exact ⟨i, h, fun a ha => by
        by_cases h2 : i ≤ a
        · exact h2
        · exact absurd ⟨a, by omega, ha⟩ hx⟩

/-- How many have a mark. -/
def cnt (n j0 : Nat) (f : Nat → Nat) : Nat := (List.range n).countP (fun a => decide (f a = j0))
theorem turn_more {n : Nat} {M : Nat → Nat → Bool} (hsym : ∀ a b, M a b = M b a) {t j0 : Nat} (hj : j0 < n) (hmin : ∀ a, a < n → Conn n M a j0 → j0 ≤ a) {f0 f : Nat → Nat} (h0 : After n M t f0) (h : Turn n M f0 f n 0)
    (ih : (∀ a, a < n → Conn n M a j0 → f0 a = j0) ∨ t + 1 ≤ cnt n j0 f0) : (∀ a, a < n → Conn n M a j0 → f a = j0) ∨ t + 1 + 1 ≤ cnt n j0 f := by
  have hge : ∀ a, a < n → Conn n M a j0 → j0 ≤ f a := fun a ha hc => hmin _ (h.co a ha).1 ((h.co a ha).2.symm.trans hc)
  by_cases hall : ∀ a, a < n → Conn n M a j0 → f0 a = j0
  · exact .inl fun a ha hc => by have := h.le a ha; rw [hall a ha hc] at this; have := hge a ha hc; omega
  · rcases ih with ih | ih
    · exact absurd ih hall
    · right
      have hcl : ∀ a, a < n → f0 a = j0 → Conn n M a j0 := fun a ha e => e ▸ (h0.co a ha).2.1
      have hfx : ∀ a, a < n → f0 a = j0 → f a = j0 := fun a ha e => by have := h.le a ha; have := hge a ha (hcl a ha e); omega
      have hex : ∃ b c, b < n ∧ c < n ∧ M b c = true ∧ f0 b ≠ j0 ∧ f0 c = j0 := by
        by_cases hx : ∃ b c, b < n ∧ c < n ∧ M b c = true ∧ f0 b ≠ j0 ∧ f0 c = j0
        · exact hx
        · exfalso
          apply hall
          intro a ha hc
          have hS := hc (fun x => f0 x = j0) (fun x y hx' hy hm => ⟨fun e => by
            by_cases e2 : f0 y = j0
            · exact e2
            · exact absurd ⟨y, x, hy, hx', by rw [hsym]; exact hm, e2, e⟩ hx, fun e => by
            by_cases e2 : f0 x = j0
            · exact e2
            · exact absurd ⟨x, y, hx', hy, hm, e2, e⟩ hx⟩)
          exact hS.2 (by
            have h1 := (h0.co j0 hj).2.2
            have h2 := hmin _ (h0.co j0 hj).1 (h0.co j0 hj).2.1.symm
            show f0 j0 = j0
            omega)
      obtain ⟨b, c, hb, hc, hm, hfb, hfc⟩ := hex
      have hbj : Conn n M b j0 := (Conn.one hb hc hm).trans (hcl c hc hfc)
      have hfb2 : f b = j0 := by have := h.dn b c hb hc (.inl hb) hm; have := hge b hb hbj; omega
      have := count_more (fun a => decide (f0 a = j0)) (fun a => decide (f a = j0)) (List.range n) (fun x hx hp => by
        simp only [decide_eq_true_eq] at hp ⊢
        exact hfx x (List.mem_range.1 hx) hp) ⟨b, List.mem_range.2 hb, by simpa using hfb, by simpa using hfb2⟩
      unfold cnt at ih ⊢
      omega
theorem after_more {n : Nat} {M : Nat → Nat → Bool} (hsym : ∀ a b, M a b = M b a) {j0 : Nat} (hj : j0 < n) (hmin : ∀ a, a < n → Conn n M a j0 → j0 ≤ a) : ∀ (t : Nat) (f : Nat → Nat), After n M t f → (∀ a, a < n → Conn n M a j0 → f a = j0) ∨ t + 1 ≤ cnt n j0 f
  | 0, f, h => .inr (by
      have : 0 < cnt n j0 f := List.countP_pos_iff.2 ⟨j0, List.mem_range.2 hj, by simpa using h j0 hj⟩
      omega)
  | t + 1, f, ⟨f0, h0, h⟩ => turn_more hsym hj hmin h0 h (after_more hsym hj hmin t f0 h0)
/-- BEHIND AS MANY TURNS AS THERE ARE, marks are alike just where one leads to the other. -/
theorem after_all {n : Nat} {M : Nat → Nat → Bool} (hsym : ∀ a b, M a b = M b a) {f : Nat → Nat} (h : After n M n f) (i j : Nat) (hi : i < n) (hj : j < n) : f i = f j ↔ Conn n M i j := by
  constructor
  · intro e
    exact (h.co i hi).2.1.trans (e ▸ (h.co j hj).2.1.symm)
  · intro hc
    obtain ⟨j0, ⟨h1, h2⟩, h3⟩ := least (fun a => a < n ∧ Conn n M a i) i ⟨hi, Conn.refl i⟩
    rcases after_more hsym h1 (fun a ha hca => h3 a ⟨ha, hca.trans h2⟩) n f h with hx | hx
    · rw [hx i hi h2.symm, hx j hj (hc.symm.trans h2.symm)]
    · have : cnt n j0 f ≤ n := by unfold cnt; have := List.countP_le_length (p := fun a => decide (f a = j0)) (l := List.range n); simpa using this
      omega
end Go.Proofs.Ytpmfojnccfnleaa.Qm
