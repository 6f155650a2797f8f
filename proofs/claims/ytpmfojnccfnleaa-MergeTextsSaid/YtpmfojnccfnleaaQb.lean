/- The document's answers: a line with its end; marks. -/
import Derived.Test.YtpmfojnccfnleaaQa
namespace Go.Proofs.Ytpmfojnccfnleaa.Qb
open Go.RowKit Go.Proofs.Ytpmfojnccfnleaa.Aa Go.Proofs.Ytpmfojnccfnleaa.Vw Go.Proofs.Ytpmfojnccfnleaa.Ma Go.Proofs.Ytpmfojnccfnleaa.Mb Go.Proofs.Ytpmfojnccfnleaa.Na Go.Proofs.Ytpmfojnccfnleaa.No Go.Proofs.Ytpmfojnccfnleaa.Np Go.Proofs.Ytpmfojnccfnleaa.Nq Go.Proofs.Ytpmfojnccfnleaa.Qa
set_option linter.unusedVariables false
set_option linter.unusedSimpArgs false

theorem endNl_last (s : ByteArray) (m : Nat) (h : s.size = m + 1) : endNl s = decide (s[m]'(by omega) = 10) := by
  unfold endNl
  rw [ByteArray.toList_eq, List.getLast?_eq_getElem?]
  have hl : s.data.toList.length = s.size := by rw [Array.length_toList]; rfl
  have hg : s.data.toList[s.size - 1]? = some (s[m]'(by omega)) := by
    have e : s.size - 1 = m := by omega
    rw [e, List.getElem?_eq_getElem (by rw [hl]; omega)]
    rfl
  rw [hl, hg]
  rw [Bool.eq_iff_iff]
  simp

set_option maxRecDepth 100000 in
set_option maxHeartbeats 4000000 in
theorem refClosed_of (s : ByteArray) (w : World) (hs : s.size ≤ 9223372036854775806) :
    Calls Try.prog 60 #[.string s] w fun e w' => e = .returned (.string (closeL s)) ∧ w = w' := by
  have h1 : (⟨#[10]⟩ : ByteArray).size = 1 := rfl
  have hadd := run_string_add_sum (P := Try.prog) w s ⟨#[10]⟩ (by omega)
  obtain ⟨t, ht⟩ : ∃ t, s ++ (⟨#[10]⟩ : ByteArray) = t := ⟨_, rfl⟩
  rw [ht] at hadd
  by_cases h0 : s.size = 0
  · have HC : Hid (closeL s = t) := Lib.hid (by
      have e : s = ByteArray.empty := ByteArray.ext (Array.eq_empty_of_size_eq_zero h0)
      have e2 : endNl s = false := by
        rw [e]
        unfold endNl
        rw [ByteArray.toList_eq]
        rfl
      unfold closeL
      rw [← ht, e2]
      rfl)
    have hz : ((s.size : Int) == 0) = true := by rw [h0]; rfl
    clear h0 ht h1
    go_enter Try.func60, Try.ntmps60
    go_wp2_with fail
    go_ret
    exact ⟨by rw [HC.out]; rfl, rfl⟩
  · obtain ⟨m, hm⟩ : ∃ m, s.size = m + 1 := ⟨s.size - 1, by omega⟩
    have hlt : m < s.size := by omega
    have he := endNl_last s m hm
    have hz : ((s.size : Int) == 0) = false := by rw [beq_eq_false_iff_ne]; omega
    have hi : (s.size : Int) - 1 = (m : Int) := by omega
    by_cases h10 : s[m] = 10
    · have HC : Hid (closeL s = s) := Lib.hid (by unfold closeL; rw [he, decide_eq_true h10]; rfl)
      have hb : ((s[m].toNat : Int) != 10) = false := by rw [h10]; rfl
      clear he h10 ht h1 h0 hm
      go_enter Try.func60, Try.ntmps60
      go_wp2_with fail
      go_ret
      exact ⟨by rw [HC.out]; rfl, rfl⟩
    · have HC : Hid (closeL s = t) := Lib.hid (by unfold closeL; rw [he, decide_eq_false h10, ← ht]; rfl)
      have hb : ((s[m].toNat : Int) != 10) = true := by
        rw [bne_iff_ne]; intro h; exact h10 (UInt8.toNat_inj.1 (by have : (10 : UInt8).toNat = 10 := rfl; omega))
      clear he h10 ht h1 h0 hm
      go_enter Try.func60, Try.ntmps60
      go_wp2_with fail
      go_ret
      exact ⟨by rw [HC.out]; rfl, rfl⟩
def repB (k : Nat) (c : UInt8) : ByteArray := ⟨(List.replicate k c).toArray⟩
theorem repB_size (k : Nat) (c : UInt8) : (repB k c).size = k := by simp [repB, ByteArray.size]
theorem repB_next (k : Nat) (c : UInt8) : repB k c ++ ⟨#[c]⟩ = repB (k + 1) c := by
  apply ByteArray.ext
  apply Array.toList_inj.1
  simp [repB, Array.replicate_succ]
set_option maxRecDepth 100000 in
set_option maxHeartbeats 4000000 in
theorem refMark_of (c : UInt8) (w : World) (h10 : c ≠ 10) :
    Calls Try.prog 59 #[.string ⟨#[c]⟩] w fun e w' => e = .returned (.string ⟨#[c, c, c, c, c, c, c, 10]⟩) ∧ w = w' := by
  have h1 : (⟨#[c]⟩ : ByteArray).size = 1 := rfl
  have HC : Hid (closeL (repB 7 c) = ⟨#[c, c, c, c, c, c, c, 10]⟩) := Lib.hid (by
    unfold closeL
    rw [endNl_last (repB 7 c) 6 (repB_size 7 c), decide_eq_false (show ¬ ((repB 7 c)[6]'(by rw [repB_size]; omega) = 10) from h10)]
    rfl)
  clear h10
  obtain ⟨sg, hsg⟩ : ∃ sg : ByteArray, (⟨#[c]⟩ : ByteArray) = sg := ⟨_, rfl⟩
  have HN : Hid (∀ k, repB k c ++ sg = repB (k + 1) c) := Lib.hid (by rw [← hsg]; exact fun k => repB_next k c)
  rw [hsg] at h1 ⊢
  clear hsg
  go_enter Try.func59, Try.ntmps59
  go_wp2_with fail
  go_loopw [3, 4] (fun s i wr => ∃ k : Nat, k ≤ 7 ∧ i = .int .i64 k ∧ s = .string (repB k c) ∧ w = wr) (fun s i _ => 7 - (intOf i).toNat)
  case atStart => exact ⟨0, by omega, rfl, rfl, rfl⟩
  case round =>
    obtain ⟨k, hk, rfl, rfl, rfl⟩ := hrel
    by_cases hlt : k < 7
    · have hlt2 : (k : Int) < 7 := by omega
      have hz := repB_size k c
      have hadd := run_string_add (P := Try.prog) w (repB k c) sg (by omega) (by omega)
      rw [HN.out k] at hadd
      clear hz
      go_wp2_with fail
      go_roundw
      case rel => exact ⟨k + 1, by omega, by go_num, rfl, trivial⟩
      case measure => simp [intOf]; omega
    · obtain rfl : k = 7 := by omega
      have hz := repB_size 7 c
      go_wp2_with fail
      refine (refClosed_of (repB 7 c) w (by omega)).mono ?_
      rintro e w' ⟨rfl, rfl⟩
      rw [HC.out]
      go_wp2_with fail
      go_ret
      exact ⟨rfl, rfl⟩
end Go.Proofs.Ytpmfojnccfnleaa.Qb
