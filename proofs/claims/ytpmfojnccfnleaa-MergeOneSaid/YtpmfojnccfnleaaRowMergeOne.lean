/- The statement MergeOne of the package merge: for every input the call returns true, and the arguments read as they did. -/
import Derived.Test.YtpmfojnccfnleaaPi
import Derived.Test.YtpmfojnccfnleaaRw
import Derived.Test.YtpmfojnccfnleaaRows
import Derived.WalkKit
import Derived.ProofKit
import Derived.OpenShut
import Derived.ShutString
import Derived.ChangeOld
import Derived.Below
import Derived.SizedLaws
namespace Go.Proofs.Ytpmfojnccfnleaa.mergeOne
open Go.ChangeShapes Go.WideShapes Go.ChangeAt Go.RowKit Go.Proofs.Ytpmfojnccfnleaa Go.Proofs.Ytpmfojnccfnleaa.Rw
open Go.ChangeMaps (open_string shut_string)
set_option linter.unusedVariables false

theorem own : ownKnob Try.prog.godebug = none := by kernel_rfl
theorem laidOut : laidOutB Try.prog = true := by kernel_rfl

set_option maxRecDepth 100000 in
theorem lifted (os : Os) (started : os.Started) (H : Type) (enc : TypeId × Value → H) :
    ReturnsInHanded {} Try.checked os 9 .any (Rows.mergeOneSpec.pre6 enc Try.prog Try.f9 Rows.mergeOneRow.domain false) (Rows.mergeOneSpec.post enc Try.prog Try.f9 false true false false) := by
  refine returnsInHanded_of_change_sized (C := Try.checked) own started (by kernel_rfl) Try.func9
    (ChangeSpec.witness6 (enc := enc) (C := Try.checked) false ⟨#[], #[.string ByteArray.empty, .string ByteArray.empty, .slice none 0 0, .slice none 0 0], []⟩ 8 (by kernel_rfl) (by kernel_rfl) (by kernel_rfl) (by kernel_rfl)) ?_
  intro W base args ds gs before hval0 hW hcnd hz0 _
  have hval : ∀ (j : Nat) t v, Try.f9.params[j]? = some t → args[j]? = some v → Value.okWide Try.prog W .any base t v := hval0
  have hW' := hW
  obtain ⟨p, q, hA0, hV, rfl, hfz, hnd⟩ := hW
  have hA : DataW.TrodAll enc Try.prog W 0 (fun _ => true) true Try.f9.params.toList args.toList ds p := hA0
  rw [Try.params9] at hA hval
  obtain ⟨v0, vs0, d0, ds0, p0, q0, hargs, rfl, rfl, h0, r0⟩ := trodAll_cons hA
  obtain ⟨v1, vs1, d1, ds1, p1, q1, rfl, rfl, rfl, h1, r1⟩ := trodAll_cons r0
  obtain ⟨v2, vs2, d2, ds2, p2, q2, rfl, rfl, rfl, h2, r2⟩ := trodAll_cons r1
  obtain ⟨v3, vs3, d3, ds3, p3, q3, rfl, rfl, rfl, h3, r3⟩ := trodAll_cons r2
  obtain ⟨rfl, rfl, rfl⟩ := trodAll_nil r3
  obtain rfl : args = #[v0, v1, v2, v3] := by cases args; simp_all
  obtain ⟨rfl, rfl⟩ := trodVars_none hV
  have hz : (DataW.weightsEach Try.prog (Try.f9.params.toList ++ []) ([d0, d1, d2, d3] ++ [])).all (· ≤ reachBytes) = true := hz0
  rw [Try.params9] at hz
  obtain ⟨s0, rfl, rfl, rfl, ws0⟩ := open_string Try.underlying9 (hval 0 9 v0 rfl rfl) h0
  have z0 : s0.size ≤ 140737488355328 := by have := sized_string hz (j := 0) rfl rfl; have h2 : reachBytes < 2 ^ 47 := reachBytes_lt; have h3 : s0.data.toList.length = s0.size := rfl; omega
  obtain ⟨s1, rfl, rfl, rfl, ws1⟩ := open_string Try.underlying9 (hval 1 9 v1 rfl rfl) h1
  have z1 : s1.size ≤ 140737488355328 := by have := sized_string hz (j := 1) rfl rfl; have h2 : reachBytes < 2 ^ 47 := reachBytes_lt; have h3 : s1.data.toList.length = s1.size := rfl; omega
  obtain ⟨A2, len2, c2, rfl⟩ := okWide_slice Try.underlying36 (hval 2 36 v2 rfl rfl)
  have k2 := h2
  have lt2 : ∀ x ∈ p2, x.block < W.heap.size := by obtain ⟨m, hm⟩ := k2; exact DataW.trod_lt m _ _ _ hm
  obtain ⟨x2, len_2, r_2, hd2⟩ : ∃ xs : List ByteArray, len2 = xs.length ∧ Vw.El.str.Row W A2 c2 xs ∧ (d2 = .nil ∧ xs = [] ∨ ∃ sp, d2 = .slice (strs xs) sp) := by obtain ⟨fuel, hf⟩ := h2; exact open_rowS Try.underlying36 Try.underlying9 (by kernel_rfl) hf
  subst len_2
  have z2 := sized_strs hz (j := 2) rfl rfl hd2 Try.underlying36
  obtain ⟨A3, len3, c3, rfl⟩ := okWide_slice Try.underlying36 (hval 3 36 v3 rfl rfl)
  have k3 := h3
  have lt3 : ∀ x ∈ p3, x.block < W.heap.size := by obtain ⟨m, hm⟩ := k3; exact DataW.trod_lt m _ _ _ hm
  obtain ⟨x3, len_3, r_3, hd3⟩ : ∃ xs : List ByteArray, len3 = xs.length ∧ Vw.El.str.Row W A3 c3 xs ∧ (d3 = .nil ∧ xs = [] ∨ ∃ sp, d3 = .slice (strs xs) sp) := by obtain ⟨fuel, hf⟩ := h3; exact open_rowS Try.underlying36 Try.underlying9 (by kernel_rfl) hf
  subst len_3
  have z3 := sized_strs hz (j := 3) rfl rfl hd3 Try.underlying36
  clear hA0 hval0 hz0
  refine (show Calls Try.prog 9 #[.string s0, .string s1, .slice A2 x2.length c2, .slice A3 x3.length c3] W (fun e w' => e = .returned (.bool true) ∧ Below W.heap.size W w') from ((Pi.one_of A2 A3 c2 c3 s0 s1 x2 x3 W z0 z1 r_2 r_3 z2 z3).mono fun e w' h => ⟨h.1, h.2.below_no⟩)).mono fun e W' ⟨he, bel⟩ => ?_
  subst he
  exact ⟨_, rfl, _, _, _, [], _, [], hW', trodAll_mk1 (shut_bool Try.underlying4 _), (trodAll_cons_mk (shut_string Try.underlying9 ws0) (trodAll_cons_mk (shut_string Try.underlying9 ws1) (trodAll_cons_mk (Below.trod laidOut (by kernel_rfl) (of_decide_eq_true (by kernel_rfl)) k2 bel lt2) (trodAll_cons_mk (Below.trod laidOut (by kernel_rfl) (of_decide_eq_true (by kernel_rfl)) k3 bel lt3) trodAll_mk0)))), rfl, bel.frame _, fun h => by cases h⟩

theorem over : Rows.mergeOneRow.holds Try.pinned (OpenSpec.ofChange Rows.mergeOneSpec) :=
  OpenClaim.holds_of_wide 9 Try.f9 rfl rfl rfl rfl rfl rfl rfl ⟨rfl, rfl, rfl, rfl, rfl⟩ rfl rfl rfl rfl rfl (by kernel_rfl) Try.func9 (by kernel_rfl)
    (of_decide_eq_true (by kernel_rfl)) (by unfold Func.isWrapper; first | (rw [if_pos (by decide +kernel)]; kernel_rfl) | (rw [if_neg (by decide +kernel)]; exact ⟨rfl, rfl⟩))
    (fun os started H enc _ => lifted os started H enc)

theorem proved : Rows.MergeOneSaid := over
end Go.Proofs.Ytpmfojnccfnleaa.mergeOne
namespace Go.Proofs.Ytpmfojnccfnleaa
/-- The row, under a short name, for the claim. -/
theorem mergeOne_holds : Rows.MergeOneSaid := mergeOne.proved
#print axioms mergeOne_holds
end Go.Proofs.Ytpmfojnccfnleaa
