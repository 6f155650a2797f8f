/- What becomes of one path: walked. -/
import Derived.Test.YtekeiieefkgopaaBc
import Derived.Test.YtekeiieefkgopaaPe
import Derived.Laws.StructEq
namespace Go.Proofs.Ytekeiieefkgopaa.Be
open Go.RowKit Go.Proofs.Ytekeiieefkgopaa.Aa Go.Proofs.Ytekeiieefkgopaa.Vw Go.Proofs.Ytekeiieefkgopaa.Mb Go.Proofs.Ytekeiieefkgopaa.Na Go.Proofs.Ytekeiieefkgopaa.No Go.Proofs.Ytekeiieefkgopaa.Nq Go.Proofs.Ytekeiieefkgopaa.Ba Go.Proofs.Ytekeiieefkgopaa.Bc
set_option linter.unusedVariables false
set_option linter.unusedSimpArgs false

abbrev At.val (x : At) : Value := .agg #[.string x.text, .bool x.is]
theorem at_eq (x y : At) (w : World) : (binOp .eql 40 (.agg #[.string x.text, .bool x.is]) (.agg #[.string y.text, .bool y.is])).run Try.prog w = .ok (.bool (decide (x = y))) w := by
  obtain ⟨s, b⟩ := x
  obtain ⟨t, c⟩ := y
  have u1 := Try.underlying9
  have a1 := Try.isAgg9
  have z1 := Try.sizeOf9
  have u2 := Try.underlying4
  have a2 := Try.isAgg4
  have z2 := Try.sizeOf4
  have hS : (Try.prog).underlying 40 = some (.struct ((Try.prog).fieldsOf 40)) := by kernel_rfl
  have hp : (Try.prog).stoodInHeld 40 = false := by kernel_rfl
  rw [run_eql_struct, show (10000 : Nat) = 9999 + 1 from rfl, run_equalIn_agg w 9999 40 _ _ hS hp]
  simp only [Program.fieldsOf, Try.underlying40]
  go_simp
  by_cases h1 : s = t
  · subst h1
    by_cases h2 : b = c
    · subst h2; simp
    · simp [h2]
  · have h3 : ¬ s.toList = t.toList := fun h => h1 (by
      rw [ByteArray.toList_eq, ByteArray.toList_eq] at h
      exact ByteArray.ext (Array.toList_inj.1 h))
    simp [h1, h3]

end Go.Proofs.Ytekeiieefkgopaa.Be
