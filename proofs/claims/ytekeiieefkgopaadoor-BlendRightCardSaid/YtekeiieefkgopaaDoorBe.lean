/- What becomes of one path: walked. -/
import Derived.Test.YtekeiieefkgopaaDoorBc
import Derived.Test.YtekeiieefkgopaaDoorPe
import Derived.Laws.StructEq
namespace Go.Proofs.YtekeiieefkgopaaDoor.Be
open Go.RowKit Go.Proofs.YtekeiieefkgopaaDoor.Aa Go.Proofs.YtekeiieefkgopaaDoor.Vw Go.Proofs.YtekeiieefkgopaaDoor.Mb Go.Proofs.YtekeiieefkgopaaDoor.Na Go.Proofs.YtekeiieefkgopaaDoor.No Go.Proofs.YtekeiieefkgopaaDoor.Nq Go.Proofs.YtekeiieefkgopaaDoor.Ba Go.Proofs.YtekeiieefkgopaaDoor.Bc
set_option linter.unusedVariables false
set_option linter.unusedSimpArgs false

abbrev At.val (x : At) : Value := .agg #[.string x.text, .bool x.is]
theorem at_eq (x y : At) (w : World) : (binOp .eql 59 (.agg #[.string x.text, .bool x.is]) (.agg #[.string y.text, .bool y.is])).run Tryd.prog w = .ok (.bool (decide (x = y))) w := by
  obtain ⟨s, b⟩ := x
  obtain ⟨t, c⟩ := y
  have u1 := Tryd.underlying9
  have a1 := Tryd.isAgg9
  have z1 := Tryd.sizeOf9
  have u2 := Tryd.underlying4
  have a2 := Tryd.isAgg4
  have z2 := Tryd.sizeOf4
  have hS : (Tryd.prog).underlying 59 = some (.struct ((Tryd.prog).fieldsOf 59)) := by kernel_rfl
  have hp : (Tryd.prog).stoodInHeld 59 = false := by kernel_rfl
  rw [run_eql_struct, show (10000 : Nat) = 9999 + 1 from rfl, run_equalIn_agg w 9999 59 _ _ hS hp]
  simp only [Program.fieldsOf, Tryd.underlying59]
  go_simp
  by_cases h1 : s = t
  · subst h1
    by_cases h2 : b = c
    · subst h2; simp
    · simp [h2]
  · have h3 : ¬ s.toList = t.toList := fun h => h1 (by
      rw [ByteArray.toList_eq, ByteArray.toList_eq] at h
      exact ByteArray.ext (Array.toList_inj.1 h))
    simp [h1, h3]

end Go.Proofs.YtekeiieefkgopaaDoor.Be
