/- Paths of trees, in plain Lean: the parts between slashes; the document's reading and the program's are alike. -/
import Derived.Test.YtekeiieefkgopaaDoorAa
import Derived.Lib.SplitLaws
namespace Go.Proofs.YtekeiieefkgopaaDoor.Ua
open Go
set_option linter.unusedVariables false
set_option linter.unusedSimpArgs false

/-- The parts between slashes. -/
def segs : List UInt8 → List (List UInt8)
  | [] => [[]]
  | b :: l => if b = 47 then [] :: segs l else match segs l with
    | s :: r => (b :: s) :: r
    | [] => [[b]]
theorem segs_ne : ∀ l, segs l ≠ []
  | [] => by simp [segs]
  | b :: l => by
    unfold segs
    split
    · simp
    · split <;> simp
theorem segs_slash (l : List UInt8) : segs (47 :: l) = [] :: segs l := by
  conv => lhs; unfold segs
  rw [if_pos rfl]
theorem segs_other {b : UInt8} (h : b ≠ 47) (l : List UInt8) : ∃ s r, segs l = s :: r ∧ segs (b :: l) = (b :: s) :: r := by
  cases hs : segs l with
  | nil => exact absurd hs (segs_ne l)
  | cons s r =>
    refine ⟨s, r, rfl, ?_⟩
    conv => lhs; unfold segs
    rw [if_neg h, hs]
theorem index_head (l : List UInt8) : Lib.index (47 :: l) [47] = 0 := by
  unfold Lib.index
  rw [if_pos (by simp [List.isPrefixOf])]
theorem index_tail {b : UInt8} (h : b ≠ 47) (l : List UInt8) : Lib.index (b :: l) [47] = if Lib.index l [47] == -1 then -1 else Lib.index l [47] + 1 := by
  conv => lhs; unfold Lib.index
  rw [if_neg (by simp only [List.isPrefixOf, Bool.and_true, beq_iff_eq]; exact fun e => h e.symm)]
theorem segs_miss : ∀ l, Lib.index l [47] = -1 → segs l = [l]
  | [], _ => rfl
  | b :: l, h => by
    by_cases hb : b = 47
    · subst hb; rw [index_head] at h; cases h
    · rw [index_tail hb] at h
      have hg := Lib.index_ge l [47]
      have h2 : Lib.index l [47] = -1 := by
        by_cases e : (Lib.index l [47] == -1) = true
        · exact beq_iff_eq.1 e
        · rw [if_neg e] at h; omega
      obtain ⟨s, r, h3, h4⟩ := segs_other hb l
      rw [segs_miss l h2] at h3
      injection h3 with e1 e2
      subst e1; subst e2
      exact h4
theorem segs_hit : ∀ l (i : Nat), Lib.index l [47] = (i : Int) → segs l = l.take i :: segs (l.drop (i + 1))
  | [], i, h => by
    have : Lib.index [] [47] = -1 := rfl
    rw [this] at h; omega
  | b :: l, i, h => by
    by_cases hb : b = 47
    · subst hb
      rw [index_head] at h
      obtain rfl : i = 0 := by omega
      rw [segs_slash]
      rfl
    · rw [index_tail hb] at h
      by_cases e : (Lib.index l [47] == -1) = true
      · rw [if_pos e] at h; omega
      · rw [if_neg e] at h
        have hg := Lib.index_ge l [47]
        have hne : Lib.index l [47] ≠ -1 := fun e2 => e (beq_iff_eq.2 e2)
        obtain ⟨j, rfl⟩ : ∃ j, i = j + 1 := ⟨i - 1, by omega⟩
        have ih := segs_hit l j (by omega)
        obtain ⟨s, r, h3, h4⟩ := segs_other hb l
        rw [ih] at h3
        injection h3 with e1 e2
        rw [h4, ← e1, ← e2]
        simp
def sl : ByteArray := ⟨#[47]⟩
theorem bytes_ext {a b : ByteArray} (h : a.data.toList = b.data.toList) : a = b := ByteArray.ext (Array.toList_inj.1 h)
theorem split_segs : ∀ (k : Nat) (s : ByteArray), Lib.countB s sl = k → Lib.splitB sl 0 k s = (segs s.data.toList).map (fun l => (⟨l.toArray⟩ : ByteArray)) := by
  intro k
  induction k with
  | zero =>
    intro s hk
    rcases Lib.indexB_cases s sl with hix | ⟨i, hix, _⟩
    · rw [Lib.splitB_zero, segs_miss _ hix]
      simp
    · have := Lib.countB_hit s sl i (by decide) hix; omega
  | succ k ih =>
    intro s hk
    rcases Lib.indexB_cases s sl with hix | ⟨i, hix, hroom⟩
    · rw [Lib.countB_miss s sl hix] at hk; omega
    · have hc := Lib.countB_hit s sl i (by decide) hix
      have hs1 : sl.size = 1 := rfl
      rw [Lib.splitB_hit sl 0 k s i hix, ih _ (by omega), segs_hit _ i hix, List.map_cons, Lib.extract_to_end, hs1]
      congr 1
      refine bytes_ext ?_
      rw [ByteArray.data_extract, Array.toList_extract]
      simp

/-- A part that may not be. -/
def bad (p : ByteArray) : Bool := decide (p = ⟨#[]⟩) || decide (p = ⟨#[46]⟩) || decide (p = ⟨#[46, 46]⟩)
/-- A sign that may not be. -/
def oddB (b : UInt8) : Bool := decide (b.toNat < 32) || decide (b.toNat = 127)
/-- As the document reads it. -/
def pathR (part : ByteArray) : List UInt8 → Bool
  | [] => !bad part
  | b :: l => if b = 47 then !bad part && pathR ⟨#[]⟩ l else if oddB b then false else pathR (part.push b) l
theorem odd_slash : oddB 47 = false := by decide
theorem pathR_eq : ∀ (l : List UInt8) (part : ByteArray), pathR part l = ((match segs l with | s :: r => !bad ⟨(part.data.toList ++ s).toArray⟩ && r.all (fun t => !bad ⟨t.toArray⟩) | [] => true) && !l.any oddB)
  | [], part => by
    have e : (⟨(part.data.toList ++ []).toArray⟩ : ByteArray) = part := by simp
    simp only [pathR, segs, e, List.all_nil, List.any_nil, Bool.and_true, Bool.not_false]
  | b :: l, part => by
    unfold pathR
    by_cases hb : b = 47
    · subst hb
      rw [if_pos rfl, segs_slash, pathR_eq l ⟨#[]⟩, List.any_cons, odd_slash]
      have e : (⟨(part.data.toList ++ []).toArray⟩ : ByteArray) = part := by simp
      simp only [e, Bool.false_or]
      cases hs : segs l with
      | nil => exact absurd hs (segs_ne l)
      | cons s r =>
        simp only [List.all_cons, List.nil_append]
        cases bad part <;> simp [Bool.and_assoc]
    · rw [if_neg hb]
      obtain ⟨s, r, h3, h4⟩ := segs_other hb l
      rw [h4, List.any_cons]
      cases ho : oddB b with
      | true => simp
      | false =>
        rw [if_neg (by simp), pathR_eq l, h3]
        have e : (⟨((part.push b).data.toList ++ s).toArray⟩ : ByteArray) = ⟨(part.data.toList ++ b :: s).toArray⟩ := by
          congr 2
          simp [ByteArray.push]
        simp only [e, Bool.false_or]
/-- Whether a path can be. -/
def pathB (p : ByteArray) : Bool := decide (p.size ≤ 200) && pathR ⟨#[]⟩ p.data.toList
def parts (p : ByteArray) : List ByteArray := (segs p.data.toList).map (fun l => (⟨l.toArray⟩ : ByteArray))
theorem path_alike (p : ByteArray) : pathB p = ((parts p).all (fun q => !bad q) && (decide (p.size ≤ 200) && !p.data.toList.any oddB)) := by
  unfold pathB parts
  rw [pathR_eq]
  cases hs : segs p.data.toList with
  | nil => exact absurd hs (segs_ne _)
  | cons s r =>
    simp only [List.nil_append, List.map_cons, List.all_cons, List.all_map, Function.comp_def]
    cases decide (p.size ≤ 200) <;> simp
end Go.Proofs.YtekeiieefkgopaaDoor.Ua
