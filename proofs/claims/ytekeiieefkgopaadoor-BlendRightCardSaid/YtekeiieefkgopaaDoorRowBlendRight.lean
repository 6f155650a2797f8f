/- for any three right trees the call returns true, and the arguments read as they did -/
import Derived.Test.YtekeiieefkgopaaDoorXd
import Derived.Test.YtekeiieefkgopaaDoorRf
import Derived.Test.YtekeiieefkgopaaDoorRw
import Derived.Test.YtekeiieefkgopaaDoorRows
import Derived.WalkKit
import Derived.ProofKit
import Derived.OpenShut
import Derived.ShutString
import Derived.ChangeOld
import Derived.Below
import Derived.SizedLaws
import Derived.LaidMore
import Derived.Lay
import Derived.SevenTiedAt
import Derived.Stop.Joined
import Derived.Test.YtekeiieefkgopaaDoorCards
import Derived.Test.YtekeiieefkgopaaDoorTie
namespace Go.Proofs.YtekeiieefkgopaaDoor.blendRight
open Go.ChangeShapes Go.WideShapes Go.ChangeAt Go.RowKit Go.Proofs.YtekeiieefkgopaaDoor Go.Proofs.YtekeiieefkgopaaDoor.Rw
open Go.ChangeMaps (open_string shut_string)
set_option linter.unusedVariables false

theorem own : ownKnob Tryd.prog.godebug = none := by kernel_rfl
theorem laidOut : laidOutB Tryd.prog = true := by kernel_rfl

set_option maxRecDepth 100000 in
set_option maxHeartbeats 4000000 in
theorem lifted (os : Os) (started : os.Started) (H : Type) (enc : TypeId × Value → H) :
    ReturnsInHanded {} Tryd.checked os 3 .any (fun w args => (Rows.blendRightSpec.pre enc Tryd.prog Tryd.f3 Rows.blendRightRow.domain false w args ∧ laidMetH Tryd.prog Rows.blendRightRow.laid w) ∧ sizedMet enc Tryd.prog Tryd.f3 (OpenSpec.ofChange Rows.blendRightSpec) false w args)
      (Rows.blendRightSpec.post enc Tryd.prog Tryd.f3 false true false false) := by
  refine returnsInHanded_of_change_and (C := Tryd.checked) (X := fun w _ => laidMetH Tryd.prog Rows.blendRightRow.laid w) (fun _ _ _ hh h => h.of_heap hh) own started (by kernel_rfl) Tryd.func3
    (ChangeSpec.witness_shaped (enc := enc) (C := Tryd.checked) (os := os) (X := fun w _ => laidMetH Tryd.prog Rows.blendRightRow.laid w) false (World.laidAll Tryd.prog os Rows.blendRightRow.laid) #[.slice none 0 0, .slice none 0 0, .slice none 0 0] 8 (World.laidAll_os _ _ _)
      (World.shaped_of_ZipB (by kernel_rfl) (by kernel_rfl)) (by kernel_rfl) (by kernel_rfl) (by kernel_rfl)
      (by rw [MakeChecks.laidMetH_plain _ _ _ (by kernel_rfl)]; exact laidMet_laidAll _ (by kernel_rfl) (by kernel_rfl))) ?_
  intro W base args ds gs before hval0 hW hcnd hz0 hL _
  have hval : ∀ (j : Nat) t v, Tryd.f3.params[j]? = some t → args[j]? = some v → Value.okWide Tryd.prog W .any base t v := hval0
  have hW' := hW
  obtain ⟨p, q, hA0, hV, rfl, hfz, hnd⟩ := hW
  have hA : DataW.TrodAll enc Tryd.prog W 0 (fun _ => true) true Tryd.f3.params.toList args.toList ds p := hA0
  rw [Tryd.params3] at hA hval
  obtain ⟨v0, vs0, d0, ds0, p0, q0, hargs, rfl, rfl, h0, r0⟩ := trodAll_cons hA
  obtain ⟨v1, vs1, d1, ds1, p1, q1, rfl, rfl, rfl, h1, r1⟩ := trodAll_cons r0
  obtain ⟨v2, vs2, d2, ds2, p2, q2, rfl, rfl, rfl, h2, r2⟩ := trodAll_cons r1
  obtain ⟨rfl, rfl, rfl⟩ := trodAll_nil r2
  obtain rfl : args = #[v0, v1, v2] := by cases args; simp_all
  obtain ⟨rfl, rfl⟩ := trodVars_none hV
  have hz : (DataW.weightsEach Tryd.prog (Tryd.f3.params.toList ++ []) ([d0, d1, d2] ++ [])).all (· ≤ reachBytes) = true := hz0
  rw [Tryd.params3] at hz
  obtain ⟨A0, len0, c0, rfl⟩ := okWide_slice Tryd.underlying22 (hval 0 22 v0 rfl rfl)
  have k0 := h0
  have lt0 : ∀ x ∈ p0, x.block < W.heap.size := by obtain ⟨m, hm⟩ := k0; exact DataW.trod_lt m _ _ _ hm
  obtain ⟨x0, len_0, r_0, hd0⟩ : ∃ xs : List Ba.Fl, len0 = xs.length ∧ Ba.file.Row W A0 c0 xs ∧ (d0 = .nil ∧ xs = [] ∨ ∃ sp, d0 = .slice (xs.map Rf.fdat) sp) := by obtain ⟨fuel, hf⟩ := h0; exact Rf.open_rowF hf
  subst len_0
  have z0 := Rf.sized_files hz (j := 0) rfl rfl hd0
  obtain ⟨A1, len1, c1, rfl⟩ := okWide_slice Tryd.underlying22 (hval 1 22 v1 rfl rfl)
  have k1 := h1
  have lt1 : ∀ x ∈ p1, x.block < W.heap.size := by obtain ⟨m, hm⟩ := k1; exact DataW.trod_lt m _ _ _ hm
  obtain ⟨x1, len_1, r_1, hd1⟩ : ∃ xs : List Ba.Fl, len1 = xs.length ∧ Ba.file.Row W A1 c1 xs ∧ (d1 = .nil ∧ xs = [] ∨ ∃ sp, d1 = .slice (xs.map Rf.fdat) sp) := by obtain ⟨fuel, hf⟩ := h1; exact Rf.open_rowF hf
  subst len_1
  have z1 := Rf.sized_files hz (j := 1) rfl rfl hd1
  obtain ⟨A2, len2, c2, rfl⟩ := okWide_slice Tryd.underlying22 (hval 2 22 v2 rfl rfl)
  have k2 := h2
  have lt2 : ∀ x ∈ p2, x.block < W.heap.size := by obtain ⟨m, hm⟩ := k2; exact DataW.trod_lt m _ _ _ hm
  obtain ⟨x2, len_2, r_2, hd2⟩ : ∃ xs : List Ba.Fl, len2 = xs.length ∧ Ba.file.Row W A2 c2 xs ∧ (d2 = .nil ∧ xs = [] ∨ ∃ sp, d2 = .slice (xs.map Rf.fdat) sp) := by obtain ⟨fuel, hf⟩ := h2; exact Rf.open_rowF hf
  subst len_2
  have z2 := Rf.sized_files hz (j := 2) rfl rfl hd2
  clear hA0 hval0 hz0
  refine (show Calls Tryd.prog 3 #[.slice A0 x0.length c0, .slice A1 x1.length c1, .slice A2 x2.length c2] W (fun e w' => e = .returned (.bool true) ∧ Below W.heap.size W w') from ((Uh.right_law A0 A1 A2 c0 c1 c2 x0 x1 x2 W r_0 r_1 r_2 z0 z1 z2).mono fun e w' h => ⟨h.1, h.2.below_no⟩)).mono fun e W' ⟨he, bel⟩ => ?_
  subst he
  exact ⟨_, rfl, _, _, _, [], _, [], hW', trodAll_mk1 (shut_bool Tryd.underlying4 _), (trodAll_cons_mk (Below.trod laidOut (by kernel_rfl) (of_decide_eq_true (by kernel_rfl)) k0 bel lt0) (trodAll_cons_mk (Below.trod laidOut (by kernel_rfl) (of_decide_eq_true (by kernel_rfl)) k1 bel lt1) (trodAll_cons_mk (Below.trod laidOut (by kernel_rfl) (of_decide_eq_true (by kernel_rfl)) k2 bel lt2) trodAll_mk0))), rfl, bel.frame _, fun h => by cases h⟩

theorem over : Rows.blendRightRow.holds Tryd.pinned (OpenSpec.ofChange Rows.blendRightSpec) :=
  OpenClaim.holds_of_wide 3 Tryd.f3 rfl rfl rfl rfl rfl rfl rfl ⟨rfl, rfl, rfl, rfl, rfl⟩ rfl rfl rfl rfl rfl (by kernel_rfl) Tryd.func3 (by kernel_rfl)
    (of_decide_eq_true (by kernel_rfl)) (by unfold Func.isWrapper; first | (rw [if_pos (by decide +kernel)]; kernel_rfl) | (rw [if_neg (by decide +kernel)]; exact ⟨rfl, rfl⟩))
    (fun os started H enc _ => lifted os started H enc)

theorem row : Rows.BlendRightSaid := over
theorem card : Rows.BlendRightCardSaid :=
  Claim7.holds_tied_plain_at .later [] [.data, .pinned] true (true, Rows.blendRightCard.stood.harness.2) false
    row (fun _ h => by cases h) (by kernel_rfl) (fun _ h => by cases h) blendRight_row_tie rfl ⟨rfl, rfl⟩ (by kernel_rfl) rfl
    (fun f fn hf hfn => by
      obtain rfl : f = 3 := Option.some.inj ((show Tryd.prog.funcNamed "grapevine/grapevinelaw11.BlendRight" = some 3 by kernel_rfl).symm.trans hf) |>.symm
      obtain rfl : fn = Tryd.f3 := (Option.some.inj (Tryd.func3.symm.trans hfn)).symm
      exact ⟨by kernel_rfl, fun j t ht => by
        rw [Tryd.params3] at ht
        have hm : t ∈ [22] := by simpa using Array.mem_of_getElem? ht
        have hall : ([22].all fun u => !Tryd.prog.wantsStandIn u) = true := by kernel_rfl
        exact (show Tryd.prog.wantsStandIn t = false by simpa using List.all_eq_true.1 hall t hm)⟩)
    (by kernel_rfl)
end Go.Proofs.YtekeiieefkgopaaDoor.blendRight
namespace Go.Proofs.YtekeiieefkgopaaDoor
/-- The card, under a short name, for the claim. -/
theorem blendRight_holds : Rows.BlendRightCardSaid := blendRight.card
#print axioms blendRight_holds
end Go.Proofs.YtekeiieefkgopaaDoor
