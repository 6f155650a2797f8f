/- for every three texts the call returns true, and the arguments read as they did -/
import Derived.Test.YtpmfojnccfnleaaQu
import Derived.Test.YtpmfojnccfnleaaRw
import Derived.Test.YtpmfojnccfnleaaRw
import Derived.Test.YtpmfojnccfnleaaRows
import Derived.WalkKit
import Derived.ProofKit
import Derived.OpenShut
import Derived.ShutString
import Derived.ChangeOld
import Derived.Below
import Derived.SizedLaws
namespace Go.Proofs.Ytpmfojnccfnleaa.mergeTexts
open Go.ChangeShapes Go.WideShapes Go.ChangeAt Go.RowKit Go.Proofs.Ytpmfojnccfnleaa Go.Proofs.Ytpmfojnccfnleaa.Rw
open Go.ChangeMaps (open_string shut_string)
set_option linter.unusedVariables false

theorem own : ownKnob Try.prog.godebug = none := by kernel_rfl
theorem laidOut : laidOutB Try.prog = true := by kernel_rfl

set_option maxRecDepth 100000 in
theorem lifted (os : Os) (started : os.Started) (H : Type) (enc : TypeId × Value → H) :
    ReturnsInHanded {} Try.checked os 8 .any (Rows.mergeTextsSpec.pre6 enc Try.prog Try.f8 Rows.mergeTextsRow.domain false) (Rows.mergeTextsSpec.post enc Try.prog Try.f8 false true false false) := by
  refine returnsInHanded_of_change_sized (C := Try.checked) own started (by kernel_rfl) Try.func8
    (ChangeSpec.witness6 (enc := enc) (C := Try.checked) false ⟨#[], #[.string ByteArray.empty, .string ByteArray.empty, .string ByteArray.empty], []⟩ 8 (by kernel_rfl) (by kernel_rfl) (by kernel_rfl) (by kernel_rfl)) ?_
  intro W base args ds gs before hval0 hW hcnd hz0 _
  have hval : ∀ (j : Nat) t v, Try.f8.params[j]? = some t → args[j]? = some v → Value.okWide Try.prog W .any base t v := hval0
  have hW' := hW
  obtain ⟨p, q, hA0, hV, rfl, hfz, hnd⟩ := hW
  have hA : DataW.TrodAll enc Try.prog W 0 (fun _ => true) true Try.f8.params.toList args.toList ds p := hA0
  rw [Try.params8] at hA hval
  obtain ⟨v0, vs0, d0, ds0, p0, q0, hargs, rfl, rfl, h0, r0⟩ := trodAll_cons hA
  obtain ⟨v1, vs1, d1, ds1, p1, q1, rfl, rfl, rfl, h1, r1⟩ := trodAll_cons r0
  obtain ⟨v2, vs2, d2, ds2, p2, q2, rfl, rfl, rfl, h2, r2⟩ := trodAll_cons r1
  obtain ⟨rfl, rfl, rfl⟩ := trodAll_nil r2
  obtain rfl : args = #[v0, v1, v2] := by cases args; simp_all
  obtain ⟨rfl, rfl⟩ := trodVars_none hV
  have hz : (DataW.weightsEach Try.prog (Try.f8.params.toList ++ []) ([d0, d1, d2] ++ [])).all (· ≤ reachBytes) = true := hz0
  rw [Try.params8] at hz
  obtain ⟨s0, rfl, rfl, rfl, ws0⟩ := open_string Try.underlying9 (hval 0 9 v0 rfl rfl) h0
  have z0 : s0.size ≤ 140737488355328 := by have := sized_string hz (j := 0) rfl rfl; have h2 : reachBytes < 2 ^ 47 := reachBytes_lt; have h3 : s0.data.toList.length = s0.size := rfl; omega
  obtain ⟨s1, rfl, rfl, rfl, ws1⟩ := open_string Try.underlying9 (hval 1 9 v1 rfl rfl) h1
  have z1 : s1.size ≤ 140737488355328 := by have := sized_string hz (j := 1) rfl rfl; have h2 : reachBytes < 2 ^ 47 := reachBytes_lt; have h3 : s1.data.toList.length = s1.size := rfl; omega
  obtain ⟨s2, rfl, rfl, rfl, ws2⟩ := open_string Try.underlying9 (hval 2 9 v2 rfl rfl) h2
  have z2 : s2.size ≤ 140737488355328 := by have := sized_string hz (j := 2) rfl rfl; have h2 : reachBytes < 2 ^ 47 := reachBytes_lt; have h3 : s2.data.toList.length = s2.size := rfl; omega
  clear hA0 hval0 hz0
  refine (show Calls Try.prog 8 #[.string s0, .string s1, .string s2] W (fun e w' => e = .returned (.bool true) ∧ Below W.heap.size W w') from ((Qt.mtexts_of s0 s1 s2 W z0 z1 z2).mono fun e w' h => ⟨h.1, h.2.below_no⟩)).mono fun e W' ⟨he, bel⟩ => ?_
  subst he
  exact ⟨_, rfl, _, _, _, [], _, [], hW', trodAll_mk1 (shut_bool Try.underlying4 _), (trodAll_cons_mk (shut_string Try.underlying9 ws0) (trodAll_cons_mk (shut_string Try.underlying9 ws1) (trodAll_cons_mk (shut_string Try.underlying9 ws2) trodAll_mk0))), rfl, bel.frame _, fun h => by cases h⟩

theorem over : Rows.mergeTextsRow.holds Try.pinned (OpenSpec.ofChange Rows.mergeTextsSpec) :=
  OpenClaim.holds_of_wide 8 Try.f8 rfl rfl rfl rfl rfl rfl rfl ⟨rfl, rfl, rfl, rfl, rfl⟩ rfl rfl rfl rfl rfl (by kernel_rfl) Try.func8 (by kernel_rfl)
    (of_decide_eq_true (by kernel_rfl)) (by unfold Func.isWrapper; first | (rw [if_pos (by decide +kernel)]; kernel_rfl) | (rw [if_neg (by decide +kernel)]; exact ⟨rfl, rfl⟩))
    (fun os started H enc _ => lifted os started H enc)

theorem proved : Rows.MergeTextsSaid := over
end Go.Proofs.Ytpmfojnccfnleaa.mergeTexts
namespace Go.Proofs.Ytpmfojnccfnleaa
/-- The row, under a short name, for the claim. -/
theorem mergeTexts_holds : Rows.MergeTextsSaid := mergeTexts.proved
#print axioms mergeTexts_holds
end Go.Proofs.Ytpmfojnccfnleaa
