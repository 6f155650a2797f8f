/- A text's lines, byte by byte (plain). -/
import Derived.Test.YtpmfojnccfnleaaQb
namespace Go.Proofs.Ytpmfojnccfnleaa.Qc
open Go Go.Proofs.Ytpmfojnccfnleaa.No Go.Proofs.Ytpmfojnccfnleaa.Qa
set_option linter.unusedVariables false
set_option linter.unusedSimpArgs false

/-- Lines of bytes. -/
def spl : List UInt8 → List (List UInt8)
  | [] => []
  | b :: l => if b = 10 then [10] :: spl l else match spl l with
    | [] => [[b]]
    | x :: r => (b :: x) :: r
/-- The last line, a byte longer. -/
def ext (b : UInt8) : List (List UInt8) → List (List UInt8)
  | [] => []
  | [x] => [x ++ [b]]
  | x :: y :: r => x :: ext b (y :: r)
/-- Is the last line open? -/
def openB : List UInt8 → Bool
  | [] => false
  | [b] => decide (b ≠ 10)
  | _ :: b :: l => openB (b :: l)
theorem spl_cons_ne (l : List UInt8) (h : l ≠ []) : spl l ≠ [] := by
  cases l with
  | nil => exact absurd rfl h
  | cons b l =>
    simp only [spl]
    split
    · simp
    · split <;> simp
theorem spl_snoc (pre : List UInt8) (b : UInt8) : spl (pre ++ [b]) = if openB pre then ext b (spl pre) else spl pre ++ [[b]] := by
  induction pre with
  | nil =>
    simp only [List.nil_append, openB, spl]
    by_cases h : b = 10
    · subst h; simp
    · simp [h]
  | cons a l ih =>
    cases l with
    | nil =>
      simp only [List.nil_append, List.cons_append, openB, spl]
      by_cases h : a = 10
      · subst h
        by_cases h2 : b = 10
        · subst h2; simp
        · simp [h2]
      · by_cases h2 : b = 10
        · subst h2; simp [h, ext]
        · simp [h, h2, ext]
    | cons c l =>
      have hne := spl_cons_ne (c :: l) (by simp)
      have e : openB (a :: c :: l) = openB (c :: l) := rfl
      have e2 : (a :: c :: l) ++ [b] = a :: ((c :: l) ++ [b]) := rfl
      rw [e, e2]
      show (if a = 10 then [10] :: spl ((c :: l) ++ [b]) else match spl ((c :: l) ++ [b]) with
        | [] => [[a]]
        | x :: r => (a :: x) :: r) = _
      rw [ih]
      have e3 : spl (a :: c :: l) = if a = 10 then [10] :: spl (c :: l) else match spl (c :: l) with
        | [] => [[a]]
        | x :: r => (a :: x) :: r := rfl
      rw [e3]
      generalize spl (c :: l) = L at *
      cases L with
      | nil => exact absurd rfl hne
      | cons x r =>
        cases hO : openB (c :: l) with
        | false =>
          simp only [Bool.false_eq_true, if_false]
          by_cases h : a = 10
          · rw [if_pos h, if_pos h]; rfl
          · rw [if_neg h, if_neg h]; rfl
        | true =>
          simp only [if_true]
          by_cases h : a = 10
          · rw [if_pos h, if_pos h]; rfl
          · rw [if_neg h, if_neg h]
            cases r with
            | nil => rfl
            | cons y r => rfl
/-- Where the first line ends. -/
def nlL (l : List UInt8) : Nat := if 0 ≤ Lib.indexByte l 10 then (Lib.indexByte l 10).toNat + 1 else l.length
theorem nlL_ten (l : List UInt8) : nlL (10 :: l) = 1 := by simp [nlL, Lib.indexByte]
theorem nlL_next (b : UInt8) (l : List UInt8) (h : b ≠ 10) : nlL (b :: l) = nlL l + 1 := by
  have hge := Lib.indexByte_ge l 10
  have h2 : (b == 10) = false := by rw [beq_eq_false_iff_ne]; exact h
  unfold nlL
  simp only [Lib.indexByte, h2, Bool.false_eq_true, if_false]
  by_cases h3 : Lib.indexByte l 10 = -1
  · rw [h3]; simp
  · have h4 : (Lib.indexByte l 10 == -1) = false := by rw [beq_eq_false_iff_ne]; exact h3
    rw [h4]
    simp only [Bool.false_eq_true, if_false]
    rw [if_pos (by omega), if_pos (by omega)]
    omega
theorem spl_cut (l : List UInt8) (h : l ≠ []) : spl l = l.take (nlL l) :: spl (l.drop (nlL l)) := by
  induction l with
  | nil => exact absurd rfl h
  | cons b l ih =>
    by_cases hb : b = 10
    · subst hb
      rw [nlL_ten]
      simp [spl]
    · rw [nlL_next b l hb]
      simp only [List.take_succ_cons, List.drop_succ_cons]
      cases l with
      | nil => simp [spl, hb, nlL]
      | cons c l =>
        have := ih (by simp)
        have e3 : spl (b :: c :: l) = if b = 10 then [10] :: spl (c :: l) else match spl (c :: l) with
          | [] => [[b]]
          | x :: r => (b :: x) :: r := rfl
        rw [e3, if_neg hb, this]
theorem split_spl (n : Nat) (s : ByteArray) (h : s.size ≤ n) : splitN n s = (spl s.data.toList).map fun l => ⟨l.toArray⟩ := by
  induction n generalizing s with
  | zero =>
    have : s.data.toList = [] := by
      apply List.eq_nil_of_length_eq_zero
      have hl : s.data.toList.length = s.size := by rw [Array.length_toList]; rfl
      omega
    rw [this]
    rfl
  | succ n ih =>
    have hl : s.data.toList.length = s.size := by rw [Array.length_toList]; rfl
    simp only [splitN]
    by_cases h0 : s.size = 0
    · rw [if_pos h0]
      have : s.data.toList = [] := List.eq_nil_of_length_eq_zero (by omega)
      rw [this]
      rfl
    · rw [if_neg h0]
      have hne : s.data.toList ≠ [] := fun e => by rw [e] at hl; simp at hl; omega
      have hn : nlAt s = nlL s.data.toList := by unfold nlAt nlL; rw [hl]
      have hp := nlAt_pos s h0
      have hle := nlAt_le s
      rw [ih _ (by rw [ByteArray.size_extract]; omega), spl_cut _ hne, List.map_cons, ← hn]
      congr 1
      · apply ByteArray.ext
        apply Array.toList_inj.1
        simp
      · congr 2
        simp [List.take_of_length_le]
end Go.Proofs.Ytpmfojnccfnleaa.Qc
