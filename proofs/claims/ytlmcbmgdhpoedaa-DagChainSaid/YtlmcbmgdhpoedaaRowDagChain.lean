/- for every number the call returns true, and the argument reads as it did -/
import Derived.Test.YtlmcbmgdhpoedaaEf
import Derived.Test.YtlmcbmgdhpoedaaRw
import Derived.Test.YtlmcbmgdhpoedaaRows
import Derived.WalkKit
import Derived.ProofKit
import Derived.OpenShut
import Derived.ShutString
import Derived.ChangeOld
import Derived.Below
import Derived.SizedLaws
namespace Go.Proofs.Ytlmcbmgdhpoedaa.dagChain
open Go.ChangeShapes Go.WideShapes Go.ChangeAt Go.RowKit Go.Proofs.Ytlmcbmgdhpoedaa Go.Proofs.Ytlmcbmgdhpoedaa.Rw
open Go.ChangeMaps (open_string shut_string)
set_option linter.unusedVariables false

theorem own : ownKnob Try.prog.godebug = none := by kernel_rfl
theorem laidOut : laidOutB Try.prog = true := by kernel_rfl

set_option maxRecDepth 100000 in
set_option maxHeartbeats 4000000 in
theorem lifted (os : Os) (started : os.Started) (H : Type) (enc : TypeId × Value → H) :
    ReturnsInHanded {} Try.checked os 4 .any (Rows.dagChainSpec.pre6 enc Try.prog Try.f4 Rows.dagChainRow.domain false) (Rows.dagChainSpec.post enc Try.prog Try.f4 false true false false) := by
  refine returnsInHanded_of_change_sized (C := Try.checked) own started (by kernel_rfl) Try.func4
    (ChangeSpec.witness6 (enc := enc) (C := Try.checked) false ⟨#[], #[.int .u8 0], []⟩ 8 (by kernel_rfl) (by kernel_rfl) (by kernel_rfl) (by kernel_rfl)) ?_
  intro W base args ds gs before hval0 hW hcnd hz0 _
  have hval : ∀ (j : Nat) t v, Try.f4.params[j]? = some t → args[j]? = some v → Value.okWide Try.prog W .any base t v := hval0
  have hW' := hW
  obtain ⟨p, q, hA0, hV, rfl, hfz, hnd⟩ := hW
  have hA : DataW.TrodAll enc Try.prog W 0 (fun _ => true) true Try.f4.params.toList args.toList ds p := hA0
  rw [Try.params4] at hA hval
  obtain ⟨v0, vs0, d0, ds0, p0, q0, hargs, rfl, rfl, h0, r0⟩ := trodAll_cons hA
  obtain ⟨rfl, rfl, rfl⟩ := trodAll_nil r0
  obtain rfl : args = #[v0] := by cases args; simp_all
  obtain ⟨rfl, rfl⟩ := trodVars_none hV
  have hz : (DataW.weightsEach Try.prog (Try.f4.params.toList ++ []) ([d0] ++ [])).all (· ≤ reachBytes) = true := hz0
  rw [Try.params4] at hz
  obtain ⟨a0, rfl, rfl, rfl, w0⟩ := open_int Try.underlying5 (hval 0 5 v0 rfl rfl) h0
  clear hA0 hval0 hz0
  refine (show Calls Try.prog 4 #[.int .u8 a0] W (fun e w' => e = .returned (.bool true) ∧ Below W.heap.size W w') from (by have w0' := w0; have hw : 0 ≤ a0 ∧ a0 ≤ 255 := (by have hmin : IntKind.u8.min = 0 := (by decide); have hmax : IntKind.u8.max = 255 := (by decide); simp only [Lit.wf, Bool.and_eq_true, decide_eq_true_eq, hmin, hmax] at w0'; exact w0'); obtain ⟨m, hm⟩ : ∃ m : Nat, a0 = m := ⟨a0.toNat, by omega⟩; rw [hm]; exact (Ef.chain_of m W (by omega)).mono fun e w' h => ⟨h.1, h.2.below_no⟩)).mono fun e W' ⟨he, bel⟩ => ?_
  subst he
  exact ⟨_, rfl, _, _, _, [], _, [], hW', trodAll_mk1 (shut_bool Try.underlying4 _), (trodAll_cons_mk (shut_int Try.underlying5 w0) trodAll_mk0), rfl, bel.frame _, fun h => by cases h⟩

theorem over : Rows.dagChainRow.holds Try.pinned (OpenSpec.ofChange Rows.dagChainSpec) :=
  OpenClaim.holds_of_wide 4 Try.f4 rfl rfl rfl rfl rfl rfl rfl ⟨rfl, rfl, rfl, rfl, rfl⟩ rfl rfl rfl rfl rfl (by kernel_rfl) Try.func4 (by kernel_rfl)
    (of_decide_eq_true (by kernel_rfl)) (by unfold Func.isWrapper; first | (rw [if_pos (by decide +kernel)]; kernel_rfl) | (rw [if_neg (by decide +kernel)]; exact ⟨rfl, rfl⟩))
    (fun os started H enc _ => lifted os started H enc)

theorem proved : Rows.DagChainSaid := over
end Go.Proofs.Ytlmcbmgdhpoedaa.dagChain
namespace Go.Proofs.Ytlmcbmgdhpoedaa
/-- The row, under a short name, for the claim. -/
theorem dagChain_holds : Rows.DagChainSaid := dagChain.proved
#print axioms dagChain_holds
end Go.Proofs.Ytlmcbmgdhpoedaa
