/- The chapter's example (merge). -/
import Derived.Test.YtpmfojnccfnleaaPe
namespace Go.Proofs.Ytpmfojnccfnleaa.Pw
open Go.RowKit Go.Proofs.Ytpmfojnccfnleaa.Aa Go.Proofs.Ytpmfojnccfnleaa.Mb Go.Proofs.Ytpmfojnccfnleaa.Nh Go.Proofs.Ytpmfojnccfnleaa.No Go.Proofs.Ytpmfojnccfnleaa.Np Go.Proofs.Ytpmfojnccfnleaa.Nq Go.Proofs.Ytpmfojnccfnleaa.Pd Go.Proofs.Ytpmfojnccfnleaa.Pe
set_option linter.unusedVariables false

def t1 : ByteArray := ⟨#[49]⟩
def t2 : ByteArray := ⟨#[50]⟩
def t3 : ByteArray := ⟨#[51]⟩
def u1 : ByteArray := ⟨#[49, 10, 50, 10, 51, 10]⟩
def u2 : ByteArray := ⟨#[120, 10, 50, 10, 51, 10]⟩
def u3 : ByteArray := ⟨#[49, 10, 50, 10, 121, 10]⟩
theorem ex1 : textOf t1 t2 t3 = (⟨#[60, 60, 60, 60, 60, 60, 60, 10, 50, 10, 124, 124, 124, 124, 124, 124, 124, 10, 49, 10, 61, 61, 61, 61, 61, 61, 61, 10, 51, 10, 62, 62, 62, 62, 62, 62, 62, 10]⟩, 1) := by decide +kernel
theorem ex2 : textOf u1 u2 u3 = (⟨#[120, 10, 50, 10, 121, 10]⟩, 0) := by decide +kernel

set_option maxRecDepth 100000 in
set_option maxHeartbeats 4000000 in
theorem awake_of (w : World) : Calls Try.prog 26 #[] w fun e w' => e = .returned (.bool true) ∧ Ch no w w' := by
  go_enter Try.func26, Try.ntmps26
  go_wp2_with fail
  refine (text_any t1 t2 t3 _ (by decide) (by decide) (by decide)).mono ?_
  rintro e w1 ⟨rfl, hc1⟩
  have HC1 := Lib.hid hc1
  clear hc1
  rw [ex1]
  go_wp2_with fail
  refine (text_any u1 u2 u3 _ (by decide) (by decide) (by decide)).mono ?_
  rintro e w2 ⟨rfl, hc2⟩
  have HC2 := Lib.hid hc2
  clear hc2
  rw [ex2]
  go_wp2_with fail
  go_ret
  exact ⟨rfl, HC1.out.same HC2.out⟩


end Go.Proofs.Ytpmfojnccfnleaa.Pw
