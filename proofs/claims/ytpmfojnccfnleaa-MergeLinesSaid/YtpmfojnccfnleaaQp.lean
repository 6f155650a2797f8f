/- What the statement MergeLines does. -/
import Derived.Test.YtpmfojnccfnleaaQo
import Derived.Test.YtpmfojnccfnleaaPf
namespace Go.Proofs.Ytpmfojnccfnleaa.Qp
open Go.RowKit Go.Proofs.Ytpmfojnccfnleaa.Aa Go.Proofs.Ytpmfojnccfnleaa.Vw Go.Proofs.Ytpmfojnccfnleaa.Ma Go.Proofs.Ytpmfojnccfnleaa.Mr Go.Proofs.Ytpmfojnccfnleaa.Mb Go.Proofs.Ytpmfojnccfnleaa.Mc Go.Proofs.Ytpmfojnccfnleaa.Mi Go.Proofs.Ytpmfojnccfnleaa.Nf Go.Proofs.Ytpmfojnccfnleaa.Nh Go.Proofs.Ytpmfojnccfnleaa.Nq Go.Proofs.Ytpmfojnccfnleaa.Pd Go.Proofs.Ytpmfojnccfnleaa.Pe Go.Proofs.Ytpmfojnccfnleaa.Pw Go.Proofs.Ytpmfojnccfnleaa.Pf Go.Proofs.Ytpmfojnccfnleaa.Qo
set_option linter.unusedVariables false
set_option linter.unusedSimpArgs false

set_option maxRecDepth 100000 in
set_option maxHeartbeats 8000000 in
theorem mlines_of (Ao Aa Ab : Option Addr) (co ca cb : Nat) (o a b : List ByteArray) (w : World) (ho : El.str.Row w Ao co o) (ha : El.str.Row w Aa ca a) (hb : El.str.Row w Ab cb b)
    (so : ∀ x ∈ o, x.size ≤ 140737488355328) (sa : ∀ x ∈ a, x.size ≤ 140737488355328) (sb : ∀ x ∈ b, x.size ≤ 140737488355328) :
    Calls Try.prog 7 #[.slice Ao o.length co, .slice Aa a.length ca, .slice Ab b.length cb] w (True1 w) := by
  have HO := Lib.hid ho; have HA := Lib.hid ha; have HB := Lib.hid hb
  have HSO : Hid (∀ x ∈ o, x.size ≤ 9223372036854775806) := fun x hx => by have := so x hx; omega
  have HSA : Hid (∀ x ∈ a, x.size ≤ 9223372036854775806) := fun x hx => by have := sa x hx; omega
  have HSB : Hid (∀ x ∈ b, x.size ≤ 9223372036854775806) := fun x hx => by have := sb x hx; omega
  clear ho ha hb so sa sb
  by_cases l1 : (16 : Int) < (o.length : Int)
  · go_enter Try.func7, Try.ntmps7
    go_wp2_with fail
    refine (awake_of w).mono ?_
    rintro e w1 ⟨rfl, hc1⟩
    go_wp2_with fail
    go_ret
    exact ⟨rfl, hc1⟩
  · by_cases l2 : (16 : Int) < (a.length : Int)
    · go_enter Try.func7, Try.ntmps7
      go_wp2_with fail
      refine (awake_of w).mono ?_
      rintro e w1 ⟨rfl, hc1⟩
      go_wp2_with fail
      go_ret
      exact ⟨rfl, hc1⟩
    · by_cases l3 : (16 : Int) < (b.length : Int)
      · go_enter Try.func7, Try.ntmps7
        go_wp2_with fail
        refine (awake_of w).mono ?_
        rintro e w1 ⟨rfl, hc1⟩
        go_wp2_with fail
        go_ret
        exact ⟨rfl, hc1⟩
      · have HF := Lib.hid (fit_of o a b (by omega) (by omega) (by omega) HSO.out HSA.out HSB.out)
        go_enter Try.func7, Try.ntmps7
        go_wp2_with fail
        refine (awake_of w).mono ?_
        rintro e w1 ⟨rfl, hc1⟩
        have HC1 := Lib.hid hc1
        clear hc1
        go_wp2_with fail
        refine (lines_any Ao Aa Ab co ca cb o a b _ (HO.out.ch HC1.out) (HA.out.ch HC1.out) (HB.out.ch HC1.out) HF.out).mono ?_
        rintro e w2 ⟨vx, rfl, hx, hc2⟩
        obtain ⟨X, hX⟩ : ∃ X, mergeL o a b = X := ⟨_, rfl⟩
        have HX0 : Hid ((regionsOf o a b).flatMap (tellR o a b) = X) := hX
        have HX1 := Lib.hid hX
        rw [HX0.out] at hx
        obtain ⟨cn, hcn⟩ : ∃ n, clashN (regionsOf o a b) = n := ⟨_, rfl⟩
        have HCN := Lib.hid hcn
        rw [hcn]
        clear hX hcn
        have HC2 := Lib.hid (HC1.out.same hc2)
        obtain ⟨Ax, cx, rfl, hxr⟩ := SL.of_own hx
        have HX := Lib.hid hxr
        clear hx hc2 hxr
        go_wp2_with fail
        refine (refLines_of Ao Aa Ab co ca cb o a b _ (HO.out.ch HC2.out) (HA.out.ch HC2.out) (HB.out.ch HC2.out) (by omega) (by omega) (by omega) HSO.out HSA.out HSB.out HF.out).mono ?_
        rintro e w3 ⟨vy, rfl, hy, hc3⟩
        rw [HX1.out] at hy
        rw [HCN.out]
        have HX3 := Lib.hid (HX.out.ch hc3)
        have HC3 := Lib.hid (HC2.out.same hc3)
        obtain ⟨Ay, cy, rfl, hyr⟩ := SL.of_own hy
        have HY := Lib.hid hyr
        clear hy hc3 hyr HX
        have HTX : Hid (Calls Try.prog 29 #[.slice Ax X.length cx, .slice Ay X.length cy] w3 fun e w' => e = .returned (.bool true) ∧ Dr w3 w') := by
          have h := texts_any Ax Ay cx cy X X w3 HX3.out HY.out
          rwa [decide_eq_true (rfl : X = X)] at h
        clear HX3 HY HF HX0 HX1 HCN
        have hbq : ((cn : Int) == (cn : Int)) = true := by simp
        go_wp2_with fail
        refine HTX.out.mono ?_
        rintro e w4 ⟨rfl, hd⟩
        go_wp2_with fail
        go_ret
        exact ⟨rfl, HC3.out.then_ (Dr.ch hd no)⟩
end Go.Proofs.Ytpmfojnccfnleaa.Qp
