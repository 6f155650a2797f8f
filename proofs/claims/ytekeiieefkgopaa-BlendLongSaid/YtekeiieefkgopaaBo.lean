/- The document's look at trees: few; a tree that is good. -/
import Derived.Test.YtekeiieefkgopaaBn
namespace Go.Proofs.Ytekeiieefkgopaa.Bo
open Go.RowKit Go.Proofs.Ytekeiieefkgopaa.Aa Go.Proofs.Ytekeiieefkgopaa.Vw Go.Proofs.Ytekeiieefkgopaa.Ma Go.Proofs.Ytekeiieefkgopaa.Mb Go.Proofs.Ytekeiieefkgopaa.Mr Go.Proofs.Ytekeiieefkgopaa.Mt Go.Proofs.Ytekeiieefkgopaa.Mi Go.Proofs.Ytekeiieefkgopaa.Na Go.Proofs.Ytekeiieefkgopaa.No Go.Proofs.Ytekeiieefkgopaa.Nq Go.Proofs.Ytekeiieefkgopaa.Ba Go.Proofs.Ytekeiieefkgopaa.Bc Go.Proofs.Ytekeiieefkgopaa.Bg Go.Proofs.Ytekeiieefkgopaa.Bm Go.Proofs.Ytekeiieefkgopaa.Bn
attribute [local go_sem] mnOp
set_option linter.unusedVariables false
set_option linter.unusedSimpArgs false

/-- What the look gives, if it is yes. -/
def FewP (t : List Fl) (w : World) (e : Ending) (w' : World) : Prop := ∃ b, e = .returned (.bool b) ∧ (b = true → t.length ≤ 12 ∧ Szs 600 t) ∧ Ch no w w'
/-- The first ones' sizes, together, are at most n. -/
def FewTo (t : List Fl) (k n : Nat) : Prop := ∀ j (h : j < t.length), j < k → min t[j].path.size 1000 + min t[j].text.size 1000 ≤ n
theorem mn1000 (a : Nat) : Builtin.min2 (.int .i64 (a : Int)) (.int .i64 1000) = pure (.int .i64 ((min a 1000 : Nat) : Int)) := mnNat .i64 .i64 a 1000

set_option maxRecDepth 100000 in
set_option maxHeartbeats 8000000 in
theorem few_of (A : Option Addr) (c : Nat) (t : List Fl) (w : World) (ht : file.Row w A c t) (hz : Szs 140737488355328 t) :
    Calls Try.prog 13 #[.slice A t.length c] w (FewP t w) := by
  have hl := ht.len
  have HT := Lib.hid ht; have HZ := Lib.hid hz
  clear ht hz
  go_enter Try.func13, Try.ntmps13
  go_wp2_with fail
  go_loopw [3, 4] (fun n i wr => ∃ k n' : Nat, k ≤ t.length ∧ k ≤ 20 ∧ n' ≤ k * 2000 ∧ n = .int .i64 n' ∧ i = .int .i64 k ∧ Hid (FewTo t k n') ∧ Hid (Ch no w wr)) (fun n i _ => t.length - (intOf i).toNat)
  case atStart => exact ⟨0, 0, by omega, by omega, by omega, rfl, rfl, Lib.hid (fun j h h' => by omega), Lib.hid (Ch.refl no w)⟩
  case round =>
    obtain ⟨k, n, hk, hk20, hn, rfl, rfl, HF, HC⟩ := hrel
    by_cases hlt : k < t.length
    · by_cases h20 : k < 20
      · have h20i : (k : Int) < 20 := by omega
        obtain ⟨ad, rfl, hc0, hc1⟩ := file_at (HT.out.ch HC.out) k hlt
        have hzk := HZ.out.at k hlt
        have hm1 := mn1000 t[k].path.size
        have hm2 := mn1000 t[k].text.size
        obtain ⟨m1, hmm1⟩ : ∃ m, min t[k].path.size 1000 = m := ⟨_, rfl⟩
        obtain ⟨m2, hmm2⟩ : ∃ m, min t[k].text.size 1000 = m := ⟨_, rfl⟩
        have hF2 : FewTo t (k + 1) (n + m1 + m2) := by
          intro j hj hjk
          by_cases e : j = k
          · subst e; omega
          · have := HF.out j hj (by omega)
            omega
        have HF2 := Lib.hid hF2
        have hb1 : m1 ≤ 1000 := by omega
        have hb2 : m2 ≤ 1000 := by omega
        rw [hmm1] at hm1
        rw [hmm2] at hm2
        clear hmm1 hmm2 hF2
        have hw1 : IntKind.i64.wrap ((n : Int) + (m1 : Int)) = (n : Int) + m1 := IntWalk.i64_in _ (by omega)
        have hw2 : IntKind.i64.wrap ((n : Int) + (m1 : Int) + (m2 : Int)) = (n : Int) + m1 + m2 := IntWalk.i64_in _ (by omega)
        go_wp2_with fail
        go_quiet (fail)
        go_wp2_with fail
        go_roundw
        case rel => exact ⟨k + 1, n + m1 + m2, by omega, by omega, by omega, by go_num, by go_num, HF2, Lib.hid (HC.out.drewN _)⟩
        case measure => simp [intOf]; omega
      · have h20i : ¬ (k : Int) < 20 := by omega
        have hno : ¬ (t.length : Int) ≤ 12 := by omega
        go_wp2_with fail
        go_ret
        exact ⟨_, rfl, by simp, HC.out⟩
    · obtain rfl : k = t.length := by omega
      by_cases h12 : (t.length : Int) ≤ 12
      · by_cases h6 : (n : Int) ≤ 600
        · have HRR : Hid (t.length ≤ 12 ∧ Szs 600 t) := Lib.hid ⟨by omega, fun f hf => by
            obtain ⟨j, hj, rfl⟩ := List.getElem_of_mem hf
            have := HF.out j hj hj
            omega⟩
          go_wp2_with fail
          go_ret
          exact ⟨_, rfl, fun _ => HRR.out, HC.out⟩
        · go_wp2_with fail
          go_ret
          exact ⟨_, rfl, by simp, HC.out⟩
      · go_wp2_with fail
        go_ret
        exact ⟨_, rfl, by simp, HC.out⟩

/-- What the look gives, if it is yes. -/
def GoodP (t : List Fl) (w : World) (e : Ending) (w' : World) : Prop := ∃ b, e = .returned (.bool b) ∧ (b = true → Rise t ∧ t.length ≤ 12 ∧ Szs 600 t) ∧ Ch no w w'
set_option maxHeartbeats 1000000 in
theorem good_of (A : Option Addr) (c : Nat) (t : List Fl) (w : World) (ht : file.Row w A c t) (hz : Szs 140737488355328 t) :
    Calls Try.prog 8 #[.slice A t.length c] w (GoodP t w) := by
  have HT := Lib.hid ht; have HZ := Lib.hid hz
  clear ht hz
  go_enter Try.func8, Try.ntmps8
  go_wp2_with fail
  refine (few_of A c t w HT.out HZ.out).mono ?_
  rintro e w1 ⟨b, rfl, h, hc⟩
  have HC := Lib.hid hc; have HH := Lib.hid h
  clear hc h
  cases b with
  | false =>
    go_wp2_with fail
    go_ret
    exact ⟨_, rfl, by simp, HC.out⟩
  | true =>
    have HH3 := Lib.hid (HH.out rfl)
    clear HH
    go_wp2_with fail
    refine (right_of A c t w1 (HT.out.ch HC.out) HZ.out).mono ?_
    rintro e w2 ⟨b, rfl, h, hc⟩
    have HC2 := Lib.hid (HC.out.same hc); have HH2 := Lib.hid h
    clear hc h
    cases b with
    | false =>
      go_wp2_with fail
      go_ret
      exact ⟨_, rfl, by simp, HC2.out⟩
    | true =>
      have HH4 := Lib.hid (HH2.out rfl)
      clear HH2
      go_wp2_with fail
      go_ret
      exact ⟨_, rfl, fun _ => ⟨HH4.out.1, HH3.out.1, HH3.out.2⟩, HC2.out⟩

end Go.Proofs.Ytekeiieefkgopaa.Bo
