/- Who stands one on the other: the model, at its twelve inputs. -/
import Derived.Test.YtlmcbmgdhpoedaaDu
namespace Go.Proofs.Ytlmcbmgdhpoedaa.Ed
open Go.Proofs.Ytlmcbmgdhpoedaa.Da
set_option linter.unusedVariables false
set_option linter.unusedSimpArgs false

/-- The names, in order. -/
def wn (i : Nat) : Nm := ⟨#[UInt8.ofNat (122 - i)]⟩
def wants (k : Nat) : List Nm := (List.range k).map wn
theorem wants_next (k : Nat) : wants (k + 1) = wants k ++ [wn k] := by unfold wants; rw [List.range_succ, List.map_append]; rfl
theorem wants_len (k : Nat) : (wants k).length = k := by simp [wants]
theorem wants_at {n i : Nat} (h : i < n) : (wants n)[i]? = some (wn i) := by simp [wants, h]
/-- From behind: after s steps. -/
def chainS (n : Nat) : Nat → Gr
  | 0 => Gr.new
  | s + 1 => ((chainS n s).add (wn (n - 1 - s)) [wn (n - 1 - s - 1)]).1
theorem wn_size (i : Nat) : (wn i).size = 1 := rfl
theorem chain_fine (n : Nat) : ∀ s, Fine (chainS n s) s := by
  intro s
  induction s with
  | zero => exact Fine.new
  | succ s ih => exact ih.add (by rw [wn_size]; omega) (by simp) (fun p hp => by simp only [List.mem_singleton] at hp; subst hp; rw [wn_size]; omega)
theorem chain_step : ∀ n, n < 13 → ∀ s, s < n - 1 →
    ((chainS n s).add (wn (n - 1 - s)) [wn (n - 1 - s - 1)]).2 = [] ∧ (chainS n (s + 1)).ins.length = 0 ∧ (chainS n (s + 1)).waiting.length = s + 1 ∧ (chainS n (s + 1)).lacks = [wn (n - 1 - s - 1)] := by
  decide +kernel
/-- The first one has come. -/
def fin (n : Nat) : Gr := ((chainS n (n - 1)).add (wn 0) []).1
theorem fin_fine (n : Nat) : Fine (fin n) (n - 1 + 1) := (chain_fine n (n - 1)).add (by rw [wn_size]; omega) (by simp) (by simp)
theorem fin_all : ∀ n, n < 13 → 0 < n → ((chainS n (n - 1)).add (wn 0) []).2 = wants n ∧ (∀ i, i < n → (fin n).level (wn i) = (i : Int)) ∧ (fin n).waiting.length = 0 ∧ (fin n).lacks.length = 0 ∧ (fin n).heads = [wn (n - 1)] := by
  decide +kernel
end Go.Proofs.Ytlmcbmgdhpoedaa.Ed
