/- The document's answer: a text's lines. -/
import Derived.Test.YtpmfojnccfnleaaQc
namespace Go.Proofs.Ytpmfojnccfnleaa.Qd
open Go Go.RowKit Go.Proofs.Ytpmfojnccfnleaa.Aa Go.Proofs.Ytpmfojnccfnleaa.Vw Go.Proofs.Ytpmfojnccfnleaa.Ma Go.Proofs.Ytpmfojnccfnleaa.Mb Go.Proofs.Ytpmfojnccfnleaa.No Go.Proofs.Ytpmfojnccfnleaa.Qc
set_option linter.unusedVariables false
set_option linter.unusedSimpArgs false

/-- Lines of bytes, as texts. -/
def linesB (l : List UInt8) : List ByteArray := (spl l).map fun x => ⟨x.toArray⟩
theorem split_lines (s : ByteArray) : splitS s = linesB s.data.toList := split_spl s.size s (Nat.le_refl _)
theorem linesB_new (pre : List UInt8) (b : UInt8) (h : openB pre = false) : linesB (pre ++ [b]) = linesB pre ++ [⟨#[b]⟩] := by
  unfold linesB
  rw [spl_snoc, h]
  simp
theorem ext_map (b : UInt8) : ∀ (L : List (List UInt8)) (p : Nat) (h : L.length = p + 1), ((ext b L).map fun x => (⟨x.toArray⟩ : ByteArray)) = (L.map fun x => (⟨x.toArray⟩ : ByteArray)).set p ((⟨(L[p]'(by omega)).toArray⟩ : ByteArray) ++ ⟨#[b]⟩)
  | [], p, h => by simp at h
  | [x], p, h => by
    obtain rfl : p = 0 := by simpa using h.symm
    simp only [ext, List.map_cons, List.map_nil, List.getElem_cons_zero, List.set_cons_zero]
    congr 1
  | x :: y :: r, p, h => by
    obtain ⟨p, rfl⟩ : ∃ k, p = k + 1 := ⟨p - 1, by simp at h; omega⟩
    have ih := ext_map b (y :: r) p (by simpa using h)
    have e : ext b (x :: y :: r) = x :: ext b (y :: r) := rfl
    rw [e, List.map_cons, ih]
    rfl
theorem linesB_ext (pre : List UInt8) (b : UInt8) (p : Nat) (h : openB pre = true) (hp : (linesB pre).length = p + 1) : linesB (pre ++ [b]) = (linesB pre).set p ((linesB pre)[p]'(by omega) ++ ⟨#[b]⟩) := by
  have hp2 : (spl pre).length = p + 1 := by unfold linesB at hp; simpa using hp
  have := ext_map b (spl pre) p hp2
  unfold linesB
  rw [spl_snoc, h, if_pos rfl, this]
  simp
theorem spl_len (l : List UInt8) : (spl l).length ≤ l.length ∧ ∀ x ∈ spl l, x.length ≤ l.length := by
  induction l with
  | nil => simp [spl]
  | cons b l ih =>
    simp only [spl]
    split
    · refine ⟨by simpa using ih.1, fun x hx => ?_⟩
      rcases List.mem_cons.1 hx with rfl | hx
      · simp
      · have := ih.2 x hx; simp; omega
    · split
      · refine ⟨by simp, fun x hx => ?_⟩
        simp at hx; subst hx; simp
      · rename_i x r hr
        rw [hr] at ih
        refine ⟨by have := ih.1; simp at this ⊢; omega, fun z hz => ?_⟩
        rcases List.mem_cons.1 hz with rfl | hz
        · have := ih.2 x (List.mem_cons_self ..); simp; omega
        · have := ih.2 z (List.mem_cons_of_mem _ hz); simp; omega
theorem open_snoc (pre : List UInt8) (b : UInt8) : openB (pre ++ [b]) = decide (b ≠ 10) := by
  induction pre with
  | nil => rfl
  | cons a l ih =>
    cases l with
    | nil => rfl
    | cons c l => exact ih
end Go.Proofs.Ytpmfojnccfnleaa.Qd
