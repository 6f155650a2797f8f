/- for every list of nodes, every number and every list of ids the call returns true, and the arguments read as they did -/
import Derived.Test.YtlmcbmgdhpoedaaDv
import Derived.Test.YtlmcbmgdhpoedaaRn
import Derived.Test.YtlmcbmgdhpoedaaRw
import Derived.Test.YtlmcbmgdhpoedaaRows
import Derived.WalkKit
import Derived.ProofKit
import Derived.OpenShut
import Derived.ShutString
import Derived.ChangeOld
import Derived.Below
import Derived.SizedLaws
namespace Go.Proofs.Ytlmcbmgdhpoedaa.dagTwice
open Go.ChangeShapes Go.WideShapes Go.ChangeAt Go.RowKit Go.Proofs.Ytlmcbmgdhpoedaa Go.Proofs.Ytlmcbmgdhpoedaa.Rw
open Go.ChangeMaps (open_string shut_string)
set_option linter.unusedVariables false

theorem own : ownKnob Try.prog.godebug = none := by kernel_rfl
theorem laidOut : laidOutB Try.prog = true := by kernel_rfl

set_option maxRecDepth 100000 in
set_option maxHeartbeats 4000000 in
theorem lifted (os : Os) (started : os.Started) (H : Type) (enc : TypeId × Value → H) :
    ReturnsInHanded {} Try.checked os 7 .any (Rows.dagTwiceSpec.pre6 enc Try.prog Try.f7 Rows.dagTwiceRow.domain false) (Rows.dagTwiceSpec.post enc Try.prog Try.f7 false true false false) := by
  refine returnsInHanded_of_change_sized (C := Try.checked) own started (by kernel_rfl) Try.func7
    (ChangeSpec.witness6 (enc := enc) (C := Try.checked) false ⟨#[], #[.slice none 0 0, .int .u8 0, .slice none 0 0], []⟩ 8 (by kernel_rfl) (by kernel_rfl) (by kernel_rfl) (by kernel_rfl)) ?_
  intro W base args ds gs before hval0 hW hcnd hz0 _
  have hval : ∀ (j : Nat) t v, Try.f7.params[j]? = some t → args[j]? = some v → Value.okWide Try.prog W .any base t v := hval0
  have hW' := hW
  obtain ⟨p, q, hA0, hV, rfl, hfz, hnd⟩ := hW
  have hA : DataW.TrodAll enc Try.prog W 0 (fun _ => true) true Try.f7.params.toList args.toList ds p := hA0
  rw [Try.params7] at hA hval
  obtain ⟨v0, vs0, d0, ds0, p0, q0, hargs, rfl, rfl, h0, r0⟩ := trodAll_cons hA
  obtain ⟨v1, vs1, d1, ds1, p1, q1, rfl, rfl, rfl, h1, r1⟩ := trodAll_cons r0
  obtain ⟨v2, vs2, d2, ds2, p2, q2, rfl, rfl, rfl, h2, r2⟩ := trodAll_cons r1
  obtain ⟨rfl, rfl, rfl⟩ := trodAll_nil r2
  obtain rfl : args = #[v0, v1, v2] := by cases args; simp_all
  obtain ⟨rfl, rfl⟩ := trodVars_none hV
  have hz : (DataW.weightsEach Try.prog (Try.f7.params.toList ++ []) ([d0, d1, d2] ++ [])).all (· ≤ reachBytes) = true := hz0
  rw [Try.params7] at hz
  obtain ⟨A0, len0, c0, rfl⟩ := okWide_slice Try.underlying22 (hval 0 22 v0 rfl rfl)
  have k0 := h0
  have lt0 : ∀ x ∈ p0, x.block < W.heap.size := by obtain ⟨m, hm⟩ := k0; exact DataW.trod_lt m _ _ _ hm
  obtain ⟨x0, len_0, r_0⟩ : ∃ xs : List Ds.Nd, len0 = xs.length ∧ Ds.nd.Row W A0 c0 xs := by obtain ⟨fuel, hf⟩ := h0; exact Rn.open_rowN hf
  subst len_0
  obtain ⟨a1, rfl, rfl, rfl, w1⟩ := open_int Try.underlying5 (hval 1 5 v1 rfl rfl) h1
  obtain ⟨A2, len2, c2, rfl⟩ := okWide_slice Try.underlying27 (hval 2 27 v2 rfl rfl)
  have k2 := h2
  have lt2 : ∀ x ∈ p2, x.block < W.heap.size := by obtain ⟨m, hm⟩ := k2; exact DataW.trod_lt m _ _ _ hm
  obtain ⟨x2, len_2, r_2, hd2⟩ : ∃ xs : List ByteArray, len2 = xs.length ∧ Vw.El.str.Row W A2 c2 xs ∧ (d2 = .nil ∧ xs = [] ∨ ∃ sp, d2 = .slice (strs xs) sp) := by obtain ⟨fuel, hf⟩ := h2; exact open_rowS Try.underlying27 Try.underlying30 (by kernel_rfl) hf
  subst len_2
  have z2 := sized_strs hz (j := 2) rfl rfl hd2 Try.underlying27
  clear hA0 hval0 hz0
  refine (show Calls Try.prog 7 #[.slice A0 x0.length c0, .int .u8 a1, .slice A2 x2.length c2] W (fun e w' => e = .returned (.bool true) ∧ Below W.heap.size W w') from (by have w1' := w1; have hw : 0 ≤ a1 ∧ a1 ≤ 255 := (by have hmin : IntKind.u8.min = 0 := (by decide); have hmax : IntKind.u8.max = 255 := (by decide); simp only [Lit.wf, Bool.and_eq_true, decide_eq_true_eq, hmin, hmax] at w1'; exact w1'); obtain ⟨m, hm⟩ : ∃ m : Nat, a1 = m := ⟨a1.toNat, by omega⟩; rw [hm]; exact (Dv.twice_of A0 c0 x0 m A2 c2 x2 W r_0 (by omega) r_2).mono fun e w' h => ⟨h.1, h.2.below_no⟩)).mono fun e W' ⟨he, bel⟩ => ?_
  subst he
  exact ⟨_, rfl, _, _, _, [], _, [], hW', trodAll_mk1 (shut_bool Try.underlying4 _), (trodAll_cons_mk (Below.trod laidOut (by kernel_rfl) (of_decide_eq_true (by kernel_rfl)) k0 bel lt0) (trodAll_cons_mk (shut_int Try.underlying5 w1) (trodAll_cons_mk (Below.trod laidOut (by kernel_rfl) (of_decide_eq_true (by kernel_rfl)) k2 bel lt2) trodAll_mk0))), rfl, bel.frame _, fun h => by cases h⟩

theorem over : Rows.dagTwiceRow.holds Try.pinned (OpenSpec.ofChange Rows.dagTwiceSpec) :=
  OpenClaim.holds_of_wide 7 Try.f7 rfl rfl rfl rfl rfl rfl rfl ⟨rfl, rfl, rfl, rfl, rfl⟩ rfl rfl rfl rfl rfl (by kernel_rfl) Try.func7 (by kernel_rfl)
    (of_decide_eq_true (by kernel_rfl)) (by unfold Func.isWrapper; first | (rw [if_pos (by decide +kernel)]; kernel_rfl) | (rw [if_neg (by decide +kernel)]; exact ⟨rfl, rfl⟩))
    (fun os started H enc _ => lifted os started H enc)

theorem proved : Rows.DagTwiceSaid := over
end Go.Proofs.Ytlmcbmgdhpoedaa.dagTwice
namespace Go.Proofs.Ytlmcbmgdhpoedaa
/-- The row, under a short name, for the claim. -/
theorem dagTwice_holds : Rows.DagTwiceSaid := dagTwice.proved
#print axioms dagTwice_holds
end Go.Proofs.Ytlmcbmgdhpoedaa
