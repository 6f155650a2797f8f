/- for every list of nodes the call returns true, and the argument reads as it did -/
import Derived.Test.YtlmcbmgdhpoedaaEc
import Derived.Test.YtlmcbmgdhpoedaaRn
import Derived.Test.YtlmcbmgdhpoedaaRw
import Derived.Test.YtlmcbmgdhpoedaaRows
import Derived.WalkKit
import Derived.ProofKit
import Derived.OpenShut
import Derived.ShutString
import Derived.ChangeOld
import Derived.Below
import Derived.SizedLaws
namespace Go.Proofs.Ytlmcbmgdhpoedaa.dagClosed
open Go.ChangeShapes Go.WideShapes Go.ChangeAt Go.RowKit Go.Proofs.Ytlmcbmgdhpoedaa Go.Proofs.Ytlmcbmgdhpoedaa.Rw
open Go.ChangeMaps (open_string shut_string)
set_option linter.unusedVariables false

theorem own : ownKnob Try.prog.godebug = none := by kernel_rfl
theorem laidOut : laidOutB Try.prog = true := by kernel_rfl

set_option maxRecDepth 100000 in
set_option maxHeartbeats 4000000 in
theorem lifted (os : Os) (started : os.Started) (H : Type) (enc : TypeId × Value → H) :
    ReturnsInHanded {} Try.checked os 6 .any (Rows.dagClosedSpec.pre6 enc Try.prog Try.f6 Rows.dagClosedRow.domain false) (Rows.dagClosedSpec.post enc Try.prog Try.f6 false true false false) := by
  refine returnsInHanded_of_change_sized (C := Try.checked) own started (by kernel_rfl) Try.func6
    (ChangeSpec.witness6 (enc := enc) (C := Try.checked) false ⟨#[], #[.slice none 0 0], []⟩ 8 (by kernel_rfl) (by kernel_rfl) (by kernel_rfl) (by kernel_rfl)) ?_
  intro W base args ds gs before hval0 hW hcnd hz0 _
  have hval : ∀ (j : Nat) t v, Try.f6.params[j]? = some t → args[j]? = some v → Value.okWide Try.prog W .any base t v := hval0
  have hW' := hW
  obtain ⟨p, q, hA0, hV, rfl, hfz, hnd⟩ := hW
  have hA : DataW.TrodAll enc Try.prog W 0 (fun _ => true) true Try.f6.params.toList args.toList ds p := hA0
  rw [Try.params6] at hA hval
  obtain ⟨v0, vs0, d0, ds0, p0, q0, hargs, rfl, rfl, h0, r0⟩ := trodAll_cons hA
  obtain ⟨rfl, rfl, rfl⟩ := trodAll_nil r0
  obtain rfl : args = #[v0] := by cases args; simp_all
  obtain ⟨rfl, rfl⟩ := trodVars_none hV
  have hz : (DataW.weightsEach Try.prog (Try.f6.params.toList ++ []) ([d0] ++ [])).all (· ≤ reachBytes) = true := hz0
  rw [Try.params6] at hz
  obtain ⟨A0, len0, c0, rfl⟩ := okWide_slice Try.underlying22 (hval 0 22 v0 rfl rfl)
  have k0 := h0
  have lt0 : ∀ x ∈ p0, x.block < W.heap.size := by obtain ⟨m, hm⟩ := k0; exact DataW.trod_lt m _ _ _ hm
  obtain ⟨x0, len_0, r_0⟩ : ∃ xs : List Ds.Nd, len0 = xs.length ∧ Ds.nd.Row W A0 c0 xs := by obtain ⟨fuel, hf⟩ := h0; exact Rn.open_rowN hf
  subst len_0
  clear hA0 hval0 hz0
  refine (show Calls Try.prog 6 #[.slice A0 x0.length c0] W (fun e w' => e = .returned (.bool true) ∧ Below W.heap.size W w') from ((Ec.closed_of A0 c0 x0 W r_0).mono fun e w' h => ⟨h.1, h.2.below_no⟩)).mono fun e W' ⟨he, bel⟩ => ?_
  subst he
  exact ⟨_, rfl, _, _, _, [], _, [], hW', trodAll_mk1 (shut_bool Try.underlying4 _), (trodAll_cons_mk (Below.trod laidOut (by kernel_rfl) (of_decide_eq_true (by kernel_rfl)) k0 bel lt0) trodAll_mk0), rfl, bel.frame _, fun h => by cases h⟩

theorem over : Rows.dagClosedRow.holds Try.pinned (OpenSpec.ofChange Rows.dagClosedSpec) :=
  OpenClaim.holds_of_wide 6 Try.f6 rfl rfl rfl rfl rfl rfl rfl ⟨rfl, rfl, rfl, rfl, rfl⟩ rfl rfl rfl rfl rfl (by kernel_rfl) Try.func6 (by kernel_rfl)
    (of_decide_eq_true (by kernel_rfl)) (by unfold Func.isWrapper; first | (rw [if_pos (by decide +kernel)]; kernel_rfl) | (rw [if_neg (by decide +kernel)]; exact ⟨rfl, rfl⟩))
    (fun os started H enc _ => lifted os started H enc)

theorem proved : Rows.DagClosedSaid := over
end Go.Proofs.Ytlmcbmgdhpoedaa.dagClosed
namespace Go.Proofs.Ytlmcbmgdhpoedaa
/-- The row, under a short name, for the claim. -/
theorem dagClosed_holds : Rows.DagClosedSaid := dagClosed.proved
#print axioms dagClosed_holds
end Go.Proofs.Ytlmcbmgdhpoedaa
