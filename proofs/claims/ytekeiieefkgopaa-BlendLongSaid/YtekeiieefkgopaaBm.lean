/- The document's looks at trees: same, path, right. -/
import Derived.Test.YtekeiieefkgopaaBg
import Derived.Test.YtekeiieefkgopaaBe
import Derived.Handy
import Derived.Laws.Concat
namespace Go.Proofs.Ytekeiieefkgopaa.Bm
open Go.RowKit Go.Proofs.Ytekeiieefkgopaa.Aa Go.Proofs.Ytekeiieefkgopaa.Vw Go.Proofs.Ytekeiieefkgopaa.Ma Go.Proofs.Ytekeiieefkgopaa.Mb Go.Proofs.Ytekeiieefkgopaa.Mi Go.Proofs.Ytekeiieefkgopaa.Na Go.Proofs.Ytekeiieefkgopaa.No Go.Proofs.Ytekeiieefkgopaa.Nq Go.Proofs.Ytekeiieefkgopaa.Ba Go.Proofs.Ytekeiieefkgopaa.Bc Go.Proofs.Ytekeiieefkgopaa.Bg
set_option linter.unusedVariables false
set_option linter.unusedSimpArgs false

theorem fl_ne (x y : Fl) (w : World) : (binOp .neq 34 (.agg #[.string x.path, .string x.text]) (.agg #[.string y.path, .string y.text])).run Try.prog w = .ok (.bool (!decide (x = y))) w := by
  obtain ⟨s, b⟩ := x
  obtain ⟨t, c⟩ := y
  have u1 := Try.underlying9
  have a1 := Try.isAgg9
  have z1 := Try.sizeOf9
  have hS : (Try.prog).underlying 34 = some (.struct ((Try.prog).fieldsOf 34)) := by kernel_rfl
  have hp : (Try.prog).stoodInHeld 34 = false := by kernel_rfl
  rw [run_neq_struct, show (10000 : Nat) = 9999 + 1 from rfl, run_equalIn_agg w 9999 34 _ _ hS hp]
  simp only [Program.fieldsOf, Try.underlying34]
  go_simp
  by_cases h1 : s = t
  · subst h1
    by_cases h2 : b = c
    · subst h2; simp
    · have h3 : ¬ b.toList = c.toList := fun h => h2 (by
        rw [ByteArray.toList_eq, ByteArray.toList_eq] at h
        exact ByteArray.ext (Array.toList_inj.1 h))
      simp [h2, h3]
  · have h3 : ¬ s.toList = t.toList := fun h => h1 (by
      rw [ByteArray.toList_eq, ByteArray.toList_eq] at h
      exact ByteArray.ext (Array.toList_inj.1 h))
    simp [h1, h3]

set_option maxRecDepth 100000 in
set_option maxHeartbeats 4000000 in
theorem same_of (A B : Option Addr) (c d : Nat) (xs ys : List Fl) (w : World) (hx : file.Row w A c xs) (hy : file.Row w B d ys) :
    Calls Try.prog 11 #[.slice A xs.length c, .slice B ys.length d] w fun e w' => e = .returned (.bool (decide (xs = ys))) ∧ Dr w w' := by
  have hlx := hx.len
  have hly := hy.len
  by_cases hl : xs.length = ys.length
  · have hb : ((xs.length : Int) != (ys.length : Int)) = false := by simp [hl]
    have HX := Lib.hid hx; have HY := Lib.hid hy; have HL := Lib.hid hl; clear hx hy hl
    go_enter Try.func11, Try.ntmps11
    go_wp2_with fail
    go_loopw [5] (fun i wr => ∃ k : Nat, k ≤ xs.length ∧ i = .int .i64 k ∧ Hid (xs.take k = ys.take k) ∧ Hid (Dr w wr)) (fun i _ => xs.length - (intOf i).toNat)
    case atStart => exact ⟨0, by omega, rfl, rfl, Dr.refl w⟩
    case round =>
      obtain ⟨k, hk, rfl, HE, HD⟩ := hrel
      by_cases hlt : k < xs.length
      · obtain ⟨a, rfl, hc0, hc1⟩ := file_at (HX.out.ch (HD.out.ch no)) k hlt
        have hlt2 : k < ys.length := by have := HL.out; omega
        obtain ⟨b, rfl, hd0, hd1⟩ := file_at (HY.out.ch (HD.out.ch no)) k hlt2
        have hne := fl_ne xs[k] ys[k]
        by_cases he : xs[k] = ys[k]
        · have HE2 := Lib.hid (take_next HE.out hlt hlt2 he)
          rw [decide_eq_true he] at hne
          clear he
          go_wp2_with fail
          go_quiet (fail)
          go_wp2_with fail
          go_roundw
          case rel => exact ⟨k + 1, by omega, by go_num, HE2, HD.out.drewN _⟩
          case measure => simp [intOf]; omega
        · have hn2 : decide (xs = ys) = false := decide_eq_false (fun h => he (by subst h; rfl))
          rw [decide_eq_false he] at hne
          have HN := Lib.hid hn2
          clear he hn2
          go_wp2_with fail
          go_quiet (fail)
          go_wp2_with fail
          go_ret
          exact ⟨by rw [HN.out]; rfl, HD.out.drewN _⟩
      · have hee : decide (xs = ys) = true := decide_eq_true (by
          have h := HE.out
          have := HL.out
          rwa [List.take_of_length_le (by omega), List.take_of_length_le (by omega)] at h)
        have HN := Lib.hid hee
        clear hee
        go_wp2_with fail
        go_ret
        exact ⟨by rw [HN.out]; rfl, HD.out⟩
  · have hb : ((xs.length : Int) != (ys.length : Int)) = true := by simp; omega
    have hne : decide (xs = ys) = false := decide_eq_false (fun h => hl (by rw [h]))
    have HN := Lib.hid hne
    clear hne hl
    rw [HN.out]
    go_enter Try.func11, Try.ntmps11
    go_wp2_with fail
    go_ret
    exact ⟨rfl, Dr.refl w⟩

def SomeB (w : World) (e : Ending) (w' : World) : Prop := ∃ b, e = .returned (.bool b) ∧ Ch no w w'
set_option maxRecDepth 100000 in
set_option maxHeartbeats 8000000 in
theorem path_of (s : ByteArray) (w : World) (hs : s.size ≤ 140737488355328) :
    Calls Try.prog 20 #[.string s] w (SomeB w) := by
  by_cases hl : (200 : Int) < (s.size : Int)
  · go_enter Try.func20, Try.ntmps20
    go_wp2_with fail
    go_ret
    exact ⟨_, rfl, Ch.refl no w⟩
  have hl2 : s.size ≤ 200 := by omega
  go_enter Try.func20, Try.ntmps20
  go_wp2_with fail
  go_loopw [3, 4] (fun p i wr => ∃ (k : Nat) (part : ByteArray), k ≤ s.size + 1 ∧ part.size ≤ k ∧ i = .int .i64 k ∧ p = .string part ∧ Hid (Ch no w wr)) (fun p i _ => s.size + 1 - (intOf i).toNat)
  case atStart => exact ⟨0, ⟨#[]⟩, by omega, Nat.zero_le _, rfl, rfl, Ch.refl no w⟩
  case round =>
    obtain ⟨k, part, hk, hps, rfl, rfl, HC⟩ := hrel
    by_cases h1 : (k : Int) ≤ (s.size : Int)
    · by_cases h2 : k = s.size
      · subst h2
        go_wp2_with fail
        all_goals first | (go_ret; exact ⟨_, rfl, HC.out⟩) | exact ⟨⟨s.size + 1, _, by omega, Nat.zero_le _, by go_num, rfl, HC⟩, by simp [intOf]⟩
      · have h3 : k < s.size := by omega
        have hb : ((k : Int) == (s.size : Int)) = false := by rw [beq_eq_false_iff_ne]; omega
        by_cases h4 : s[k] = 47
        · have h5 : ((s[k].toNat : Int) == 47) = true := by rw [h4]; rfl
          go_wp2_with fail
          all_goals first | (go_ret; exact ⟨_, rfl, HC.out⟩) | exact ⟨⟨k + 1, _, by omega, Nat.zero_le _, by go_num, rfl, HC⟩, by simp [intOf]; try omega⟩
        · have h5 : ((s[k].toNat : Int) == 47) = false := by
            rw [beq_eq_false_iff_ne]; intro h; exact h4 (UInt8.toNat_inj.1 (by have : (47 : UInt8).toNat = 47 := rfl; omega))
          have hadd : (Op.stringOp .add part (s.extract k (k + 1))).run Try.prog wr = .ok (.string (part ++ s.extract k (k + 1))) wr := run_string_add wr part (s.extract k (k + 1)) (by omega) (by rw [ByteArray.size_extract]; omega)
          go_wp2_with fail
          all_goals first | (go_ret; exact ⟨_, rfl, HC.out⟩) | exact ⟨⟨k + 1, _, by omega, by rw [ByteArray.size_append, ByteArray.size_extract]; omega, by go_num, rfl, HC⟩, by simp [intOf]; try omega⟩
    · go_wp2_with fail
      go_ret
      exact ⟨_, rfl, HC.out⟩

end Go.Proofs.Ytekeiieefkgopaa.Bm
