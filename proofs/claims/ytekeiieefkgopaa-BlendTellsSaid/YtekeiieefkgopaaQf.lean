/- The longest common subsequence, from the front as from behind. -/
import Derived.Test.YtekeiieefkgopaaMg
namespace Go.Proofs.Ytekeiieefkgopaa.Qf
open Go.Proofs.Ytekeiieefkgopaa.Mf Go.Proofs.Ytekeiieefkgopaa.Mg
set_option linter.unusedVariables false

theorem tail_sub {z x : List ByteArray} {c a : ByteArray} (h : (c :: z).Sublist (a :: x)) : z.Sublist x := by
  rcases List.sublist_cons_iff.1 h with h | ⟨r, e, h⟩
  · exact (List.sublist_cons_self c z).trans h
  · injection e with _ e; exact e ▸ h
theorem lcs_has (x y : List ByteArray) : ∃ z : List ByteArray, z.Sublist x ∧ z.Sublist y ∧ z.length = lcs x y := by
  induction x, y using lcs.induct with
  | case1 y => exact ⟨[], List.nil_sublist _, List.nil_sublist _, by simp [lcs]⟩
  | case2 a x => exact ⟨[], List.nil_sublist _, List.nil_sublist _, by simp [lcs]⟩
  | case3 x b y ih =>
    obtain ⟨z, h1, h2, h3⟩ := ih
    exact ⟨b :: z, h1.cons_cons b, h2.cons_cons b, by rw [lcs, if_pos rfl]; simp [h3]⟩
  | case4 a x b y h ih1 ih2 =>
    rw [lcs, if_neg h]
    obtain ⟨z, h1, h2, h3⟩ := ih1
    obtain ⟨z', h1', h2', h3'⟩ := ih2
    by_cases hc : lcs (a :: x) y ≤ lcs x (b :: y)
    · exact ⟨z, h1.cons a, h2, by rw [h3, Nat.max_eq_left hc]⟩
    · exact ⟨z', h1', h2'.cons b, by rw [h3', Nat.max_eq_right (by omega)]⟩
theorem lcs_max (x y : List ByteArray) : ∀ z : List ByteArray, z.Sublist x → z.Sublist y → z.length ≤ lcs x y := by
  induction x, y using lcs.induct with
  | case1 y => intro z h _; simp [List.sublist_nil.1 h]
  | case2 a x => intro z _ h; simp [List.sublist_nil.1 h]
  | case3 x b y ih =>
    intro z h1 h2
    rw [lcs, if_pos rfl]
    cases z with
    | nil => simp
    | cons c z =>
      have := ih z (tail_sub h1) (tail_sub h2)
      simp; omega
  | case4 a x b y h ih1 ih2 =>
    intro z h1 h2
    rw [lcs, if_neg h]
    rcases List.sublist_cons_iff.1 h1 with h1 | ⟨r, rfl, h1'⟩
    · have := ih1 z h1 h2; omega
    · rcases List.sublist_cons_iff.1 h2 with h2 | ⟨r', e, h2'⟩
      · have := ih2 _ h1 h2; omega
      · injection e with e1 _
        exact absurd e1 h
theorem lcs_rev (x y : List ByteArray) : lcs x.reverse y.reverse = lcs x y := by
  apply Nat.le_antisymm
  · obtain ⟨z, h1, h2, h3⟩ := lcs_has x.reverse y.reverse
    have := lcs_max x y z.reverse (by simpa using h1.reverse) (by simpa using h2.reverse)
    simp at this; omega
  · obtain ⟨z, h1, h2, h3⟩ := lcs_has x y
    have := lcs_max x.reverse y.reverse z.reverse (by simpa using h1.reverse) (by simpa using h2.reverse)
    simp at this; omega
/-- The table from the front. -/
def tabP (xs ys : List ByteArray) (i k : Nat) : Nat := lcs (xs.take i).reverse (ys.take k).reverse
theorem tabP_zero (xs ys : List ByteArray) (i k : Nat) (h : i = 0 ∨ k = 0) : tabP xs ys i k = 0 := by
  unfold tabP
  rcases h with rfl | rfl
  · simp [lcs]
  · cases (xs.take i).reverse <;> simp [lcs]
theorem take_rev {xs : List ByteArray} {i : Nat} (h : i < xs.length) : (xs.take (i + 1)).reverse = xs[i] :: (xs.take i).reverse := by
  rw [List.take_succ_eq_append_getElem h]; simp
theorem tabP_eq (xs ys : List ByteArray) (i k : Nat) (h1 : i < xs.length) (h2 : k < ys.length) (h : xs[i] = ys[k]) : tabP xs ys (i + 1) (k + 1) = tabP xs ys i k + 1 := by
  unfold tabP
  rw [take_rev h1, take_rev h2, lcs, if_pos h]
theorem tabP_ne (xs ys : List ByteArray) (i k : Nat) (h1 : i < xs.length) (h2 : k < ys.length) (h : xs[i] ≠ ys[k]) : tabP xs ys (i + 1) (k + 1) = max (tabP xs ys i (k + 1)) (tabP xs ys (i + 1) k) := by
  unfold tabP
  rw [take_rev h1, take_rev h2, lcs, if_neg h, ← take_rev h1, ← take_rev h2]
theorem tabP_all (xs ys : List ByteArray) : tabP xs ys xs.length ys.length = lcs xs ys := by
  unfold tabP; rw [List.take_length, List.take_length, lcs_rev]
theorem tabP_le (xs ys : List ByteArray) (i k : Nat) : tabP xs ys i k ≤ xs.length := by
  unfold tabP
  obtain ⟨z, h1, h2, h3⟩ := lcs_has (xs.take i).reverse (ys.take k).reverse
  have := h1.length_le
  simp at this; omega
end Go.Proofs.Ytekeiieefkgopaa.Qf
