/- for every list of nodes and any two ids the call returns true, and the arguments read as they did -/
import Derived.Test.YtlmcbmgdhpoedaaFo
import Derived.Test.YtlmcbmgdhpoedaaRn
import Derived.Test.YtlmcbmgdhpoedaaRw
import Derived.Test.YtlmcbmgdhpoedaaRows
import Derived.WalkKit
import Derived.ProofKit
import Derived.OpenShut
import Derived.ShutString
import Derived.ChangeOld
import Derived.Below
import Derived.SizedLaws
namespace Go.Proofs.Ytlmcbmgdhpoedaa.dagPlays
open Go.ChangeShapes Go.WideShapes Go.ChangeAt Go.RowKit Go.Proofs.Ytlmcbmgdhpoedaa Go.Proofs.Ytlmcbmgdhpoedaa.Rw
open Go.ChangeMaps (open_string shut_string)
set_option linter.unusedVariables false

theorem own : ownKnob Try.prog.godebug = none := by kernel_rfl
theorem laidOut : laidOutB Try.prog = true := by kernel_rfl

set_option maxRecDepth 100000 in
set_option maxHeartbeats 4000000 in
theorem lifted (os : Os) (started : os.Started) (H : Type) (enc : TypeId × Value → H) :
    ReturnsInHanded {} Try.checked os 5 .any (Rows.dagPlaysSpec.pre6 enc Try.prog Try.f5 Rows.dagPlaysRow.domain false) (Rows.dagPlaysSpec.post enc Try.prog Try.f5 false true false false) := by
  refine returnsInHanded_of_change_sized (C := Try.checked) own started (by kernel_rfl) Try.func5
    (ChangeSpec.witness6 (enc := enc) (C := Try.checked) false ⟨#[], #[.slice none 0 0, .string ByteArray.empty, .string ByteArray.empty], []⟩ 8 (by kernel_rfl) (by kernel_rfl) (by kernel_rfl) (by kernel_rfl)) ?_
  intro W base args ds gs before hval0 hW hcnd hz0 _
  have hval : ∀ (j : Nat) t v, Try.f5.params[j]? = some t → args[j]? = some v → Value.okWide Try.prog W .any base t v := hval0
  have hW' := hW
  obtain ⟨p, q, hA0, hV, rfl, hfz, hnd⟩ := hW
  have hA : DataW.TrodAll enc Try.prog W 0 (fun _ => true) true Try.f5.params.toList args.toList ds p := hA0
  rw [Try.params5] at hA hval
  obtain ⟨v0, vs0, d0, ds0, p0, q0, hargs, rfl, rfl, h0, r0⟩ := trodAll_cons hA
  obtain ⟨v1, vs1, d1, ds1, p1, q1, rfl, rfl, rfl, h1, r1⟩ := trodAll_cons r0
  obtain ⟨v2, vs2, d2, ds2, p2, q2, rfl, rfl, rfl, h2, r2⟩ := trodAll_cons r1
  obtain ⟨rfl, rfl, rfl⟩ := trodAll_nil r2
  obtain rfl : args = #[v0, v1, v2] := by cases args; simp_all
  obtain ⟨rfl, rfl⟩ := trodVars_none hV
  have hz : (DataW.weightsEach Try.prog (Try.f5.params.toList ++ []) ([d0, d1, d2] ++ [])).all (· ≤ reachBytes) = true := hz0
  rw [Try.params5] at hz
  obtain ⟨A0, len0, c0, rfl⟩ := okWide_slice Try.underlying22 (hval 0 22 v0 rfl rfl)
  have k0 := h0
  have lt0 : ∀ x ∈ p0, x.block < W.heap.size := by obtain ⟨m, hm⟩ := k0; exact DataW.trod_lt m _ _ _ hm
  obtain ⟨x0, len_0, r_0⟩ : ∃ xs : List Ds.Nd, len0 = xs.length ∧ Ds.nd.Row W A0 c0 xs := by obtain ⟨fuel, hf⟩ := h0; exact Rn.open_rowN hf
  subst len_0
  obtain ⟨s1, rfl, rfl, rfl, ws1⟩ := open_string Try.underlying30 (hval 1 30 v1 rfl rfl) h1
  have z1 : s1.size ≤ 140737488355328 := by have := sized_string hz (j := 1) rfl rfl; have h2 : reachBytes < 2 ^ 47 := reachBytes_lt; have h3 : s1.data.toList.length = s1.size := rfl; omega
  obtain ⟨s2, rfl, rfl, rfl, ws2⟩ := open_string Try.underlying30 (hval 2 30 v2 rfl rfl) h2
  have z2 : s2.size ≤ 140737488355328 := by have := sized_string hz (j := 2) rfl rfl; have h2 : reachBytes < 2 ^ 47 := reachBytes_lt; have h3 : s2.data.toList.length = s2.size := rfl; omega
  clear hA0 hval0 hz0
  refine (show Calls Try.prog 5 #[.slice A0 x0.length c0, .string s1, .string s2] W (fun e w' => e = .returned (.bool true) ∧ Below W.heap.size W w') from ((Fo.plays_of A0 c0 x0 s1 s2 W r_0).mono fun e w' h => ⟨h.1, h.2.below_no⟩)).mono fun e W' ⟨he, bel⟩ => ?_
  subst he
  exact ⟨_, rfl, _, _, _, [], _, [], hW', trodAll_mk1 (shut_bool Try.underlying4 _), (trodAll_cons_mk (Below.trod laidOut (by kernel_rfl) (of_decide_eq_true (by kernel_rfl)) k0 bel lt0) (trodAll_cons_mk (shut_string Try.underlying30 ws1) (trodAll_cons_mk (shut_string Try.underlying30 ws2) trodAll_mk0))), rfl, bel.frame _, fun h => by cases h⟩

theorem over : Rows.dagPlaysRow.holds Try.pinned (OpenSpec.ofChange Rows.dagPlaysSpec) :=
  OpenClaim.holds_of_wide 5 Try.f5 rfl rfl rfl rfl rfl rfl rfl ⟨rfl, rfl, rfl, rfl, rfl⟩ rfl rfl rfl rfl rfl (by kernel_rfl) Try.func5 (by kernel_rfl)
    (of_decide_eq_true (by kernel_rfl)) (by unfold Func.isWrapper; first | (rw [if_pos (by decide +kernel)]; kernel_rfl) | (rw [if_neg (by decide +kernel)]; exact ⟨rfl, rfl⟩))
    (fun os started H enc _ => lifted os started H enc)

theorem proved : Rows.DagPlaysSaid := over
end Go.Proofs.Ytlmcbmgdhpoedaa.dagPlays
namespace Go.Proofs.Ytlmcbmgdhpoedaa
/-- The row, under a short name, for the claim. -/
theorem dagPlays_holds : Rows.DagPlaysSaid := dagPlays.proved
#print axioms dagPlays_holds
end Go.Proofs.Ytlmcbmgdhpoedaa
