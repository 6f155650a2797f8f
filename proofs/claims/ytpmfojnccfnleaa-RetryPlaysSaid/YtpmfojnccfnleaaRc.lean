/- The walk of the statement RetryPlays. -/
import Derived.Test.YtpmfojnccfnleaaRb
namespace Go.Proofs.Ytpmfojnccfnleaa.Rb
open Go.RowKit
open Go.Proofs.Ytpmfojnccfnleaa.Aa Go.Proofs.Ytpmfojnccfnleaa.Ra
set_option linter.unusedVariables false
set_option linter.unusedSimpArgs false

/-- Both states, and that nothing that was there has turned. -/
structure Pl (w0 w : World) (g g2 : Nat) (a b c d c2 d2 : Int) : Prop where
  one : St 78 w g a b c d
  two : St 33 w g2 a b c2 d2
  ch : Ch no w0 w
  ne : g ≠ g2
  ge : w0.heap.size ≤ g
  ge2 : w0.heap.size ≤ g2
theorem Pl.drew {w0 w : World} {g g2 : Nat} {a b c d c2 d2 : Int} (h : Pl w0 w g g2 a b c d c2 d2) : Pl w0 w.drew g g2 a b c d c2 d2 := ⟨h.one, h.two, h.ch.drew, h.ne, h.ge, h.ge2⟩
theorem Pl.drewN {w0 w : World} {g g2 : Nat} {a b c d c2 d2 : Int} (h : Pl w0 w g g2 a b c d c2 d2) (n : Nat) : Pl w0 (w.drewN n) g g2 a b c d c2 d2 := ⟨h.one, h.two, h.ch.drewN n, h.ne, h.ge, h.ge2⟩
theorem Pl.step1 {w0 w w' : World} {g g2 : Nat} {a b c d c2 d2 c' d' : Int} (h : Pl w0 w g g2 a b c d c2 d2) (hs : St 78 w' g a b c' d') (hc : Ch (Aa.one g) w w') : Pl w0 w' g g2 a b c' d' c2 d2 :=
  ⟨hs, h.two.ch hc (fun e : g2 = g => h.ne e.symm), h.ch.trans hc (fun i hi e => by have : i = g := e; have := h.ge; omega), h.ne, h.ge, h.ge2⟩
theorem Pl.step2 {w0 w w' : World} {g g2 : Nat} {a b c d c2 d2 c' d' : Int} (h : Pl w0 w g g2 a b c d c2 d2) (hs : St 33 w' g2 a b c' d') (hc : Ch (Aa.one g2) w w') : Pl w0 w' g g2 a b c d c' d' :=
  ⟨h.one.ch hc (fun e : g = g2 => h.ne e), hs, h.ch.trans hc (fun i hi e => by have : i = g2 := e; have := h.ge2; omega), h.ne, h.ge, h.ge2⟩

/-- What a time makes of a wait, and of what is left. -/
def tickC (c d b y : Int) : Int := if d ≤ y then nextW c b else c
def tickD (c d b y : Int) : Int := if d ≤ y then nextW c b else d - max 0 y
def fires (d y : Int) : Bool := decide (d ≤ y)
theorem tick_bd (a b c d y : Int) (h1 : 1 ≤ a) (h2 : a ≤ c) (h3 : c ≤ b) (h4 : 1 ≤ d) (h5 : d ≤ c) :
    a ≤ tickC c d b y ∧ tickC c d b y ≤ b ∧ 1 ≤ tickD c d b y ∧ tickD c d b y ≤ tickC c d b y := by
  unfold tickC tickD
  by_cases h : d ≤ y
  · rw [if_pos h, if_pos h]
    have := next_bd c b (by omega) h3
    omega
  · rw [if_neg h, if_neg h]
    omega

theorem pl_tick {w0 w : World} {g g2 : Nat} {a b c d c2 d2 : Int} (y : Int) (h : Pl w0 w g g2 a b c d c2 d2) (h0 : 1 ≤ c) (h1 : c ≤ 1073741824) (h2 : 1 ≤ d) (h3 : d ≤ c) :
    Calls Try.prog 22 #[.pointer (some ⟨g, 0, none⟩), .int .i64 y] w fun e w' => e = .returned (.bool (fires d y)) ∧ Pl w0 w' g g2 a b (tickC c d b y) (tickD c d b y) c2 d2 := by
  by_cases hf : d ≤ y
  · refine (tick_yes _ _ _ _ _ _ _ h.one hf (by omega) (by omega)).mono ?_
    rintro e w' ⟨rfl, hs, hc⟩
    exact ⟨by simp [fires, hf], by rw [tickC, tickD, if_pos hf, if_pos hf]; exact h.step1 hs hc⟩
  · refine (tick_no _ _ _ _ _ _ _ h.one (by omega) (by omega) (by omega)).mono ?_
    rintro e w' ⟨rfl, hs, hc⟩
    exact ⟨by simp [fires, hf], by rw [tickC, tickD, if_neg hf, if_neg hf]; exact h.step1 hs hc⟩

theorem pl_rtick {w0 w : World} {g g2 : Nat} {a b c d c2 d2 : Int} (y : Int) (h : Pl w0 w g g2 a b c2 d2 c d) (h0 : 1 ≤ c) (h1 : c ≤ 1073741824) (h2 : 1 ≤ d) (h3 : d ≤ c) :
    Calls Try.prog 23 #[.pointer (some ⟨g2, 0, none⟩), .int .i64 y] w fun e w' => e = .returned (.bool (fires d y)) ∧ Pl w0 w' g g2 a b c2 d2 (tickC c d b y) (tickD c d b y) := by
  by_cases hf : d ≤ y
  · refine (rtick_yes _ _ _ _ _ _ _ h.two hf (by omega) (by omega) (by omega)).mono ?_
    rintro e w' ⟨rfl, hs, hc⟩
    exact ⟨by simp [fires, hf], by rw [tickC, tickD, if_pos hf, if_pos hf]; exact h.step2 hs hc⟩
  · refine (rtick_no _ _ _ _ _ _ _ h.two (by omega) (by omega) (by omega)).mono ?_
    rintro e w' ⟨rfl, hs, hc⟩
    exact ⟨by simp [fires, hf], by rw [tickC, tickD, if_neg hf, if_neg hf]; exact h.step2 hs hc⟩

theorem pl_wait {w0 w : World} {g g2 : Nat} {a b c d c2 d2 : Int} (h : Pl w0 w g g2 a b c d c2 d2) :
    Calls Try.prog 24 #[.pointer (some ⟨g, 0, none⟩)] w fun e w' => e = .returned (.int .i64 c) ∧ w' = w := (wait_any _ _ _ _ _ _ h.one).mono fun _ _ ⟨h1, h2⟩ => ⟨h1, h2.symm⟩
theorem pl_left {w0 w : World} {g g2 : Nat} {a b c d c2 d2 : Int} (h : Pl w0 w g g2 a b c d c2 d2) :
    Calls Try.prog 25 #[.pointer (some ⟨g, 0, none⟩)] w fun e w' => e = .returned (.int .i64 d) ∧ w' = w := (left_any _ _ _ _ _ _ h.one).mono fun _ _ ⟨h1, h2⟩ => ⟨h1, h2.symm⟩

set_option maxRecDepth 100000 in
set_option maxHeartbeats 4000000 in
theorem plays_walk (a b : Int) (A : Option Addr) (len cap : Nat) (zs : List Int) (w : World) (hL : IsL w A len cap zs) (ha : -9223372036854775808 ≤ a) :
    Calls Try.prog 3 #[.int .i64 a, .int .i64 b, .slice A len cap] w fun e w' => e = .returned (.bool true) ∧ Below w.heap.size w w' := by
  have hlen := hL.len
  have HL := Lib.hid hL
  clear hL
  by_cases h60 : 60 < len
  · go_enter Try.func3, Try.ntmps3
    go_wp2_with fail
    refine (awake_any _).mono ?_
    rintro e w1 ⟨rfl, hc⟩
    have HC := Lib.hid hc; clear hc
    go_wp2_with fail
    go_ret
    exact ⟨rfl, HC.out.below_no⟩
  by_cases hbad : a < 1 ∨ a > b ∨ b > 1073741824
  · go_enter Try.func3, Try.ntmps3
    go_wp2_with fail
    refine (awake_any _).mono ?_
    rintro e w1 ⟨rfl, hc⟩
    have HC := Lib.hid hc; clear hc
    go_wp2_with fail
    refine (new_no _ _ _ hbad).mono ?_
    rintro e w2 ⟨rfl, rfl⟩
    go_wp2_with fail
    refine (rnew_no _ _ _ hbad).mono ?_
    rintro e w2 ⟨rfl, rfl⟩
    clear hbad
    go_wp2_with fail
    go_ret
    exact ⟨rfl, HC.out.below_no⟩
  · have h1 : 1 ≤ a := by omega
    have h2 : a ≤ b := by omega
    have h3 : b ≤ 1073741824 := by omega
    clear hbad
    go_enter Try.func3, Try.ntmps3
    go_wp2_with fail
    refine (awake_any _).mono ?_
    rintro e w1 ⟨rfl, hc⟩
    have HC := Lib.hid hc; clear hc
    go_wp2_with fail
    refine (new_yes _ _ _ h1 h2 h3).mono ?_
    rintro e w2 ⟨rfl, hs, hc⟩
    have HGE := Lib.hid HC.out.size
    have HC2 := Lib.hid (HC.out.same hc); clear HC hc
    generalize w1.heap.size = g at hs HGE ⊢
    have HS := Lib.hid hs; clear hs
    go_wp2_with fail
    refine (rnew_yes _ _ _ h1 h2 h3).mono ?_
    rintro e w3 ⟨rfl, hs, hc⟩
    have HGE2 := Lib.hid HC2.out.size
    have HNE := Lib.hid (show g ≠ w2.heap.size from Nat.ne_of_lt (blk_lt' HS.out))
    have HSg := Lib.hid (HS.out.ch hc (no_not _))
    have HC3 := Lib.hid (HC2.out.same hc); clear HC2 hc HS
    generalize w2.heap.size = g2 at hs HGE2 HNE ⊢
    have HS2 := Lib.hid hs; clear hs
    go_wp2_with fail
    have HP : Pl w w3 g g2 a b a a a a := ⟨HSg.out, HS2.out, HC3.out, HNE.out, HGE.out, HGE2.out⟩
    clear HSg HS2 HC3 HNE HGE HGE2
    go_loopw [11] (fun i wr => ∃ (c d : Int) (k : Nat), k ≤ len ∧ a ≤ c ∧ c ≤ b ∧ 1 ≤ d ∧ d ≤ c ∧ i = .int .i64 k ∧ Pl w wr g g2 a b c d c d) (fun i _ => len - (intOf i).toNat)
    case atStart => exact ⟨a, a, 0, by omega, by omega, by omega, by omega, by omega, rfl, HP⟩
    case round =>
      clear HP
      obtain ⟨c, d, k, hk1, hc0, hc1, hd0, hd1, rfl, HP⟩ := hrel
      by_cases hlt : k < len
      · obtain ⟨x, y, rfl, hy, hy0, hy1, hyz⟩ := HL.out.get k hlt
        clear hyz
        have HY := Lib.hid hy
        clear hy
        have hcell := HY.out _ HP.ch
        by_cases hmin : (y == -9223372036854775808) = true
        · go_wp2_with fail
          refine (reset_any _ _ _ _ _ _ HP.one).mono ?_
          rintro e w4 ⟨rfl, hs, hc⟩
          have HP2 := HP.step1 hs hc; clear hs hc
          go_wp2_with fail
          refine (rreset_any _ _ _ _ _ _ HP2.two).mono ?_
          rintro e w5 ⟨rfl, hs, hc⟩
          have HP3 := HP2.step2 hs hc; clear hs hc
          obtain ⟨q0, q1, q2, q3⟩ := HP3.two.cells
          go_wp2_with fail
          go_quiet ((first | (go_at_call 24; exact Calls.quiet_of_same (pl_wait (HP3.drewN _))) | (go_at_call 25; exact Calls.quiet_of_same (pl_left (HP3.drewN _)))))
          go_wp2_with fail
          go_roundw
          case rel => exact ⟨a, a, k + 1, by omega, by omega, by omega, by omega, by omega, by go_num, HP3.drewN _⟩
          case measure => simp [intOf]; omega
        · have hmin' : (y == -9223372036854775808) = false := by simpa using hmin
          clear hmin
          obtain ⟨n0, n1, n2, n3⟩ := tick_bd a b c d y h1 hc0 hc1 hd0 hd1
          go_wp2_with fail
          go_region_with (first | (go_at_call 22; refine (pl_tick y (by first | exact HP.drew | assumption) (by omega) (by omega) (by omega) (by omega)).mono ?_; rintro e w4 ⟨rfl, HPa⟩; have hcella := HY.out _ HPa.ch) | (go_at_call 23; refine (pl_rtick y (by first | exact HP.drew | assumption) (by omega) (by omega) (by omega) (by omega)).mono ?_; rintro e w5 ⟨rfl, HPb⟩; have hcellb := HY.out _ HPb.ch))
          all_goals
            first | (have HF : Pl w w5 g g2 a b (tickC c d b y) (tickD c d b y) (tickC c d b y) (tickD c d b y) := HPb) | (have HF : Pl w w4 g g2 a b (tickC c d b y) (tickD c d b y) (tickC c d b y) (tickD c d b y) := HPa)
            obtain ⟨q0, q1, q2, q3⟩ := HF.two.cells
            generalize tickC c d b y = c' at *
            generalize tickD c d b y = d' at *
            go_wp2_with fail
            go_quiet ((first | (go_at_call 24; exact Calls.quiet_of_same (pl_wait (HF.drewN _))) | (go_at_call 25; exact Calls.quiet_of_same (pl_left (HF.drewN _)))))
            go_wp2_with fail
            go_roundw
            case rel => exact ⟨c', d', k + 1, by omega, by omega, by omega, by omega, by omega, by go_num, HF.drewN _⟩
            case measure => simp [intOf]; omega
      · obtain ⟨q0, q1, q2, q3⟩ := HP.two.cells
        go_wp2_with fail
        go_quiet ((first | (go_at_call 24; exact Calls.quiet_of_same (pl_wait (HP.drewN _))) | (go_at_call 25; exact Calls.quiet_of_same (pl_left (HP.drewN _)))))
        go_wp2_with fail
        go_ret
        exact ⟨rfl, (HP.drewN _).ch.below_no⟩

end Go.Proofs.Ytpmfojnccfnleaa.Rb
