/- The walks of the statements of the package retry. -/
import Derived.Test.YtpmfojnccfnleaaRa
import Derived.Deep.LoopGhost
import Derived.Deep.DeepFit
import Derived.OpenShut
namespace Go.Proofs.Ytpmfojnccfnleaa.Rb
open Go.RowKit
open Go.Proofs.Ytpmfojnccfnleaa.Aa Go.Proofs.Ytpmfojnccfnleaa.Ra
set_option linter.unusedVariables false
set_option linter.unusedSimpArgs false

theorem awake_any (w : World) : Calls Try.prog 17 #[] w fun e w' => e = .returned (.bool true) ∧ Ch no w w' := by
  go_enter Try.func17, Try.ntmps17
  go_wp2_with fail
  refine (new_yes 1 4 _ (by omega) (by omega) (by omega)).mono ?_
  rintro e w1 ⟨rfl, hs, hc⟩
  have HC := Lib.hid hc; have HLT := Lib.hid (Nat.le_refl w.heap.size); 
  generalize hg : w.heap.size = g at hs ⊢
  have HS := Lib.hid hs; have HG := Lib.hid hg; clear hs hc hg
  go_wp2_with fail
  have ht := tick_yes 1 4 1 1 1 _ _ HS.out (by omega) (by omega) (by omega)
  rw [show nextW 1 4 = 2 from rfl] at ht
  refine ht.mono ?_
  rintro e w2 ⟨rfl, hs, hc⟩
  have HS2 := Lib.hid hs; have HC2 := Lib.hid hc;  clear hs hc ht
  go_wp2_with fail
  refine (wait_any _ _ _ _ _ _ HS2.out).mono ?_
  rintro e w3 ⟨rfl, rfl⟩
  go_wp2_with fail
  refine (tick_no _ _ _ _ _ _ _ HS2.out (by omega) (by omega) (by omega)).mono ?_
  rintro e w3 ⟨rfl, hs, hc⟩
  rw [show (2 : Int) - max 0 1 = 1 from rfl] at hs
  have HS3 := Lib.hid hs; have HC3 := Lib.hid hc;  clear hs hc
  go_wp2_with fail
  have ht := tick_yes 1 4 2 1 1 _ _ HS3.out (by omega) (by omega) (by omega)
  rw [show nextW 2 4 = 4 from rfl] at ht
  refine ht.mono ?_
  rintro e w4 ⟨rfl, hs, hc⟩
  have HS4 := Lib.hid hs; have HC4 := Lib.hid hc;  clear hs hc ht
  go_wp2_with fail
  refine (wait_any _ _ _ _ _ _ HS4.out).mono ?_
  rintro e w5 ⟨rfl, rfl⟩
  go_wp2_with fail
  refine (left_any _ _ _ _ _ _ HS4.out).mono ?_
  rintro e w5 ⟨rfl, rfl⟩
  go_wp2_with fail
  go_ret
  have hz := HG.out
  refine ⟨rfl, (((HC.out.trans HC2.out ?_).trans HC3.out ?_).trans HC4.out ?_)⟩ <;> (intro i hi h; have : i = g := h; omega)

theorem i64_bd {x : Int} (h : (Lit.int .i64 x).wf = true) : -9223372036854775808 ≤ x ∧ x ≤ 9223372036854775807 := bounds_i64 h

theorem doubles_walk (a b m : Int) (w : World) (hm0 : 0 ≤ m) (hm1 : m ≤ 255) :
    Calls Try.prog 6 #[.int .i64 a, .int .i64 b, .int .u8 m] w fun e w' => e = .returned (.bool true) ∧ Below w.heap.size w w' := by
  by_cases hbad : a < 1 ∨ a > b ∨ b > 1073741824
  · go_enter Try.func6, Try.ntmps6
    go_wp2_with fail
    refine (awake_any _).mono ?_
    rintro e w1 ⟨rfl, hc⟩
    have HC := Lib.hid hc; clear hc
    go_wp2_with fail
    refine (new_no _ _ _ hbad).mono ?_
    rintro e w2 ⟨rfl, rfl⟩
    clear hbad
    go_wp2_with fail
    go_ret
    exact ⟨rfl, HC.out.below_no⟩
  · have h1 : 1 ≤ a := by omega
    have h2 : a ≤ b := by omega
    have h3 : b ≤ 1073741824 := by omega
    clear hbad
    go_enter Try.func6, Try.ntmps6
    go_wp2_with fail
    refine (awake_any _).mono ?_
    rintro e w1 ⟨rfl, hc⟩
    have HC := Lib.hid hc; clear hc
    go_wp2_with fail
    refine (new_yes _ _ _ h1 h2 h3).mono ?_
    rintro e w2 ⟨rfl, hs, hc⟩
    have HGE := Lib.hid HC.out.size
    have HC2 := Lib.hid (HC.out.same hc); clear HC hc
    generalize w1.heap.size = g at hs HGE ⊢
    have HS := Lib.hid hs; clear hs
    go_wp2_with fail
    go_loopw [10, 11] (fun v i wr => ∃ (c : Int) (k : Int), 0 ≤ k ∧ k ≤ 41 ∧ a ≤ c ∧ c ≤ b ∧ v = .int .i64 c ∧ i = .int .i64 k ∧ Hid (St 78 wr g a b c c) ∧ Hid (Ch no w wr)) (fun _ i _ => (41 - intOf i).toNat)
    case atStart => exact ⟨a, 0, by omega, by omega, by omega, by omega, rfl, rfl, HS, HC2⟩
    case round =>
      obtain ⟨c, k, hk0, hk1, hc0, hc1, rfl, rfl, HS1, HC1⟩ := hrel
      clear HS HC2
      by_cases hlt : k < m % 41
      · go_wp2_with fail
        refine (left_any _ _ _ _ _ _ HS1.out).mono ?_
        rintro e w3 ⟨rfl, rfl⟩
        go_wp2_with fail
        refine (tick_yes _ _ _ _ _ _ _ HS1.out (by omega) (by omega) (by omega)).mono ?_
        rintro e w3 ⟨rfl, hs, hc⟩
        have HS2 := Lib.hid hs; have HC2 := Lib.hid (HC1.out.trans hc (fun i hi h => by have : i = g := h; have := HGE.out; omega)); clear hs hc HS1 HC1
        by_cases hn : b < c * 2
        · have e : nextW c b = b := by unfold nextW; omega
          have HE := Lib.hid e
          clear e
          go_wp2_with fail
          go_roundw
          case rel => exact ⟨b, k + 1, by omega, by omega, by omega, by omega, rfl, rfl, by rw [HE.out] at HS2; exact HS2, HC2⟩
          case measure => simp [intOf]; omega
        · have e : nextW c b = c * 2 := by unfold nextW; omega
          have HE := Lib.hid e
          clear e
          go_wp2_with fail
          go_roundw
          case rel => exact ⟨c * 2, k + 1, by omega, by omega, by omega, by omega, rfl, rfl, by rw [HE.out] at HS2; exact HS2, HC2⟩
          case measure => simp [intOf]; omega
      · go_wp2_with fail
        refine (wait_any _ _ _ _ _ _ HS1.out).mono ?_
        rintro e w3 ⟨rfl, rfl⟩
        go_wp2_with fail
        go_ret
        exact ⟨rfl, HC1.out.below_no⟩


/-- What the walk is told of a slice of whole numbers that came in. -/
def IsL (w : World) (a : Option Addr) (len cap : Nat) (zs : List Int) : Prop :=
  (a = none ∧ len = 0 ∧ cap = 0 ∧ zs = []) ∨
  ∃ x, a = some x ∧ len ≤ cap ∧ cap ≤ maxLen ∧ zs.length = cap ∧ (∀ i, i < zs.length → w.cell? (x.add i) = some (.int .i64 (zs.getD i 0))) ∧ ∀ n ∈ zs, (Lit.int .i64 n).wf = true
theorem IsL.len {w : World} {a : Option Addr} {len cap : Nat} {zs : List Int} (h : IsL w a len cap zs) : len ≤ 9223372036854775807 := by
  rcases h with ⟨_, rfl, _, _⟩ | ⟨x, _, h1, h2, _⟩
  · omega
  · unfold maxLen at h2; omega
theorem IsL.get {w : World} {a : Option Addr} {len cap : Nat} {zs : List Int} (h : IsL w a len cap zs) (k : Nat) (hk : k < len) :
    ∃ x y, a = some x ∧ (∀ w', Ch no w w' → w'.cell? (x.add k) = some (.int .i64 y)) ∧ -9223372036854775808 ≤ y ∧ y ≤ 9223372036854775807 ∧ y = zs.getD k 0 := by
  rcases h with ⟨_, rfl, _, _⟩ | ⟨x, ha, h1, h2, hz, hc, hw⟩
  · omega
  · refine ⟨x, zs.getD k 0, ha, fun w' hw' => ?_, ?_⟩
    · exact cellBelow hw'.below_no (hc k (by omega))
    · have hm : zs.getD k 0 ∈ zs := by
        rw [List.getD_eq_getElem?_getD, List.getElem?_eq_getElem (by omega)]; exact List.getElem_mem _
      exact ⟨(i64_bd (hw _ hm)).1, (i64_bd (hw _ hm)).2, rfl⟩

theorem next_bd (c b : Int) (h0 : 1 ≤ c) (h1 : c ≤ b) : c ≤ nextW c b ∧ nextW c b ≤ b := by unfold nextW; omega

set_option maxRecDepth 100000 in
set_option maxHeartbeats 4000000 in
theorem limits_walk (a b : Int) (A : Option Addr) (len cap : Nat) (zs : List Int) (w : World) (hL : IsL w A len cap zs) (ha : -9223372036854775808 ≤ a) :
    Calls Try.prog 4 #[.int .i64 a, .int .i64 b, .slice A len cap] w fun e w' => e = .returned (.bool true) ∧ Below w.heap.size w w' := by
  have hlen := hL.len
  have HL := Lib.hid hL
  clear hL
  by_cases hbad : a < 1 ∨ a > b ∨ b > 1073741824
  · by_cases h60 : 60 < len
    all_goals
      go_enter Try.func4, Try.ntmps4
      go_wp2_with fail
      refine (awake_any _).mono ?_
      rintro e w1 ⟨rfl, hc⟩
      have HC := Lib.hid hc; clear hc
      go_wp2_with fail
      refine (new_no _ _ _ hbad).mono ?_
      rintro e w2 ⟨rfl, rfl⟩
      clear hbad
      go_wp2_with fail
      go_ret
      exact ⟨rfl, HC.out.below_no⟩
  · have h1 : 1 ≤ a := by omega
    have h2 : a ≤ b := by omega
    have h3 : b ≤ 1073741824 := by omega
    clear hbad
    by_cases h60 : 60 < len
    all_goals
      go_enter Try.func4, Try.ntmps4
      go_wp2_with fail
      refine (awake_any _).mono ?_
      rintro e w1 ⟨rfl, hc⟩
      have HC := Lib.hid hc; clear hc
      go_wp2_with fail
      refine (new_yes _ _ _ h1 h2 h3).mono ?_
      rintro e w2 ⟨rfl, hs, hc⟩
      have HGE := Lib.hid HC.out.size
      have HC2 := Lib.hid (HC.out.same hc); clear HC hc
      generalize w1.heap.size = g at hs HGE ⊢
      have HS := Lib.hid hs; clear hs
      go_wp2_with fail
    · go_ret
      exact ⟨rfl, HC2.out.below_no⟩
    · go_loopw [10] (fun i wr => ∃ (c d : Int) (k : Nat), k ≤ len ∧ a ≤ c ∧ c ≤ b ∧ 1 ≤ d ∧ d ≤ c ∧ i = .int .i64 k ∧ Hid (St 78 wr g a b c d) ∧ Hid (Ch no w wr)) (fun i _ => len - (intOf i).toNat)
      case atStart => exact ⟨a, a, 0, by omega, by omega, by omega, by omega, by omega, rfl, HS, HC2⟩
      case round =>
        obtain ⟨c, d, k, hk1, hc0, hc1, hd0, hd1, rfl, HS1, HC1⟩ := hrel
        clear HS HC2
        by_cases hlt : k < len
        · obtain ⟨x, y, rfl, hy, hy0, hy1, hyz⟩ := HL.out.get k hlt
          clear hyz
          have HY := Lib.hid hy
          clear hy
          have hcell := HY.out _ HC1.out
          go_wp2_with (first | (go_at_call 24; refine (wait_any _ _ _ _ _ _ HS1.out).mono ?_; rintro e w3 ⟨rfl, rfl⟩) | (go_at_call 25; refine (left_any _ _ _ _ _ _ HS1.out).mono ?_; rintro e w3 ⟨rfl, rfl⟩))
          by_cases hf : d ≤ y
          · refine (tick_yes _ _ _ _ _ _ _ HS1.out hf (by omega) (by omega)).mono ?_
            rintro e w3 ⟨rfl, hs, hc⟩
            have HS2 := Lib.hid hs; have HC2 := Lib.hid (HC1.out.trans hc (fun i hi h => by have : i = g := h; have := HGE.out; omega)); clear hs hc HS1 HC1
            have hcell2 := HY.out _ HC2.out
            obtain ⟨hn0, hn1⟩ := next_bd c b (by omega) hc1
            generalize nextW c b = c' at *
            go_wp2_with (first | (go_at_call 24; refine (wait_any _ _ _ _ _ _ HS2.out).mono ?_; rintro e w3 ⟨rfl, rfl⟩) | (go_at_call 25; refine (left_any _ _ _ _ _ _ HS2.out).mono ?_; rintro e w3 ⟨rfl, rfl⟩))
            all_goals
              go_roundw
              case rel => exact ⟨c', c', k + 1, by omega, by omega, by omega, by omega, by omega, by go_num, HS2, HC2⟩
              case measure => simp [intOf]; omega
          · refine (tick_no _ _ _ _ _ _ _ HS1.out (by omega) (by omega) (by omega)).mono ?_
            rintro e w3 ⟨rfl, hs, hc⟩
            have HS2 := Lib.hid hs; have HC2 := Lib.hid (HC1.out.trans hc (fun i hi h => by have : i = g := h; have := HGE.out; omega)); clear hs hc HS1 HC1
            have hcell2 := HY.out _ HC2.out
            have hn0 : 1 ≤ d - max 0 y := by omega
            have hn1 : d - max 0 y ≤ d := by omega
            generalize d - max 0 y = d' at *
            go_wp2_with (first | (go_at_call 24; refine (wait_any _ _ _ _ _ _ HS2.out).mono ?_; rintro e w3 ⟨rfl, rfl⟩) | (go_at_call 25; refine (left_any _ _ _ _ _ _ HS2.out).mono ?_; rintro e w3 ⟨rfl, rfl⟩))
            all_goals
              go_roundw
              case rel => exact ⟨c, d', k + 1, by omega, by omega, by omega, by omega, by omega, by go_num, HS2, HC2⟩
              case measure => simp [intOf]; omega
        · go_wp2_with fail
          refine (reset_any _ _ _ _ _ _ HS1.out).mono ?_
          rintro e w3 ⟨rfl, hs, hc⟩
          have HS2 := Lib.hid hs; have HC2 := Lib.hid (HC1.out.trans hc (fun i hi h => by have : i = g := h; have := HGE.out; omega)); clear hs hc HS1 HC1
          go_wp2_with (first | (go_at_call 24; refine (wait_any _ _ _ _ _ _ HS2.out).mono ?_; rintro e w3 ⟨rfl, rfl⟩) | (go_at_call 25; refine (left_any _ _ _ _ _ _ HS2.out).mono ?_; rintro e w3 ⟨rfl, rfl⟩))
          go_ret
          exact ⟨rfl, HC2.out.below_no⟩


set_option maxRecDepth 100000 in
set_option maxHeartbeats 4000000 in
theorem parts_walk (a b : Int) (A : Option Addr) (len cap : Nat) (zs : List Int) (w : World) (hL : IsL w A len cap zs) (ha : -9223372036854775808 ≤ a) :
    Calls Try.prog 5 #[.int .i64 a, .int .i64 b, .slice A len cap] w fun e w' => e = .returned (.bool true) ∧ Below w.heap.size w w' := by
  have hlen := hL.len
  have HL := Lib.hid hL
  clear hL
  by_cases hbad : a < 1 ∨ a > b ∨ b > 1073741824
  · by_cases h60 : 60 < len
    all_goals
      go_enter Try.func5, Try.ntmps5
      go_wp2_with fail
      refine (awake_any _).mono ?_
      rintro e w1 ⟨rfl, hc⟩
      have HC := Lib.hid hc; clear hc
      go_wp2_with fail
      refine (new_no _ _ _ hbad).mono ?_
      rintro e w2 ⟨rfl, rfl⟩
      go_wp2_with fail
      refine (new_no _ _ _ hbad).mono ?_
      rintro e w2 ⟨rfl, rfl⟩
      clear hbad
      go_wp2_with fail
      go_ret
      exact ⟨rfl, HC.out.below_no⟩
  · have h1 : 1 ≤ a := by omega
    have h2 : a ≤ b := by omega
    have h3 : b ≤ 1073741824 := by omega
    clear hbad
    by_cases h60 : 60 < len
    all_goals
      go_enter Try.func5, Try.ntmps5
      go_wp2_with fail
      refine (awake_any _).mono ?_
      rintro e w1 ⟨rfl, hc⟩
      have HC := Lib.hid hc; clear hc
      go_wp2_with fail
      refine (new_yes _ _ _ h1 h2 h3).mono ?_
      rintro e w2 ⟨rfl, hs, hc⟩
      have HGE := Lib.hid HC.out.size
      have HC2 := Lib.hid (HC.out.same hc); clear HC hc
      generalize w1.heap.size = g at hs HGE ⊢
      have HS := Lib.hid hs; clear hs
      go_wp2_with fail
      refine (new_yes _ _ _ h1 h2 h3).mono ?_
      rintro e w3 ⟨rfl, hs, hc⟩
      have HGE2 := Lib.hid HC2.out.size
      have HNE := Lib.hid (show g ≠ w2.heap.size from Nat.ne_of_lt (blk_lt' HS.out))
      have HSg := Lib.hid (HS.out.ch hc (no_not _))
      have HC3 := Lib.hid (HC2.out.same hc); clear HC2 hc HS
      generalize w2.heap.size = g2 at hs HGE2 HNE ⊢
      have HS2 := Lib.hid hs; clear hs
      go_wp2_with fail
    · go_ret
      exact ⟨rfl, HC3.out.below_no⟩
    · go_loopw [12, 13] (fun v i wr => ∃ (s : Int) (k : Nat), k ≤ len ∧ 0 ≤ s ∧ s < a ∧ v = .int .i64 s ∧ i = .int .i64 k ∧ Hid (St 78 wr g a b a (a - s)) ∧ Hid (St 78 wr g2 a b a a) ∧ Hid (Ch no w wr)) (fun _ i _ => len - (intOf i).toNat)
      case atStart => exact ⟨0, 0, by omega, by omega, by omega, rfl, rfl, by simpa using HSg, HS2, HC3⟩
      case round =>
        clear HSg HS2 HC3
        obtain ⟨s, k, hk1, hs0, hs1, rfl, rfl, HS1, HS2, HC1⟩ := hrel
        by_cases hlt : k < len
        · obtain ⟨x, y, rfl, hy, hy0, hy1, hyz⟩ := HL.out.get k hlt
          clear hyz
          have HY := Lib.hid hy
          clear hy
          have hcell := HY.out _ HC1.out
          by_cases hneg : y < 0
          · go_wp2_with fail
            go_ret
            exact ⟨rfl, HC1.out.below_no⟩
          by_cases hbig : 1048576 < y
          · go_wp2_with fail
            go_ret
            exact ⟨rfl, HC1.out.below_no⟩
          by_cases hf : a - s ≤ y
          · go_wp2_with fail
            refine (tick_yes _ _ _ _ _ _ _ HS1.out hf (by omega) (by omega)).mono ?_
            rintro e w3 ⟨rfl, hs, hc⟩
            have HC2 := Lib.hid (HC1.out.trans hc (fun i hi h => by have : i = g := h; have := HGE.out; omega)); clear hs hc HS1 HC1
            have hcell2 := HY.out _ HC2.out
            have hge : a ≤ s + y := by omega
            go_wp2_with fail
            go_ret
            exact ⟨rfl, HC2.out.below_no⟩
          · go_wp2_with fail
            refine (tick_no _ _ _ _ _ _ _ HS1.out (by omega) (by omega) (by omega)).mono ?_
            rintro e w3 ⟨rfl, hs, hc⟩
            rw [show a - s - max 0 y = a - (s + y) from by omega] at hs
            have HSg := Lib.hid hs; have HC2 := Lib.hid (HC1.out.trans hc (fun i hi h => by have : i = g := h; have := HGE.out; omega))
            have HSs := Lib.hid (HS2.out.ch hc (fun h : g2 = g => HNE.out h.symm)); clear hs hc HS1 HC1 HS2
            have hcell2 := HY.out _ HC2.out
            go_wp2_with fail
            go_roundw
            case rel => exact ⟨s + y, k + 1, by omega, by omega, by omega, rfl, by go_num, HSg, HSs, HC2⟩
            case measure => simp [intOf]; omega
        · go_wp2_with fail
          refine (tick_no _ _ _ _ _ _ _ HS2.out (by omega) (by omega) (by omega)).mono ?_
          rintro e w3 ⟨rfl, hs, hc⟩
          rw [show a - max 0 s = a - s from by omega] at hs
          have HSs := Lib.hid hs; have HC2 := Lib.hid (HC1.out.trans hc (fun i hi h => by have : i = g2 := h; have := HGE2.out; omega))
          have HSg := Lib.hid (HS1.out.ch hc (fun h : g = g2 => HNE.out h)); clear hs hc HS1 HC1 HS2
          go_wp2_with fail
          refine (left_any _ _ _ _ _ _ HSs.out).mono ?_
          rintro e w4 ⟨rfl, rfl⟩
          go_wp2_with fail
          refine (left_any _ _ _ _ _ _ HSg.out).mono ?_
          rintro e w4 ⟨rfl, rfl⟩
          go_wp2_with fail
          refine (left_any _ _ _ _ _ _ HSg.out).mono ?_
          rintro e w4 ⟨rfl, rfl⟩
          go_wp2_with fail
          go_ret
          exact ⟨rfl, HC2.out.below_no⟩

end Go.Proofs.Ytpmfojnccfnleaa.Rb
