/- Lists of strings: held against each other, cloned, grown. -/
import Derived.Test.YtekeiieefkgopaaDoorChecked
import Derived.WalkKit
import Derived.RegionTactic
import Derived.ChangeAlike
import Derived.Deep.RegionWith
import Derived.BigQuiet
import Derived.Deep.QuietTactic
import Derived.Lib.Hide
import Derived.Outline
import Derived.Deep.LoopGhost
import Derived.OwnWalk
import Derived.WalkSpells
import Derived.Lib.SliceRun
import Derived.Shelf.Spec.SlicesGrow
import Derived.Test.YtekeiieefkgopaaDoorVw
namespace Go.Proofs.YtekeiieefkgopaaDoor.Ma
open Go.RowKit Go.Proofs.YtekeiieefkgopaaDoor.Aa Go.Proofs.YtekeiieefkgopaaDoor.Vw
set_option linter.unusedVariables false
set_option linter.unusedSimpArgs false

/-- The world but for draws. -/
def Dr (w w' : World) : Prop := ∃ n, w' = w.drewN n
theorem Dr.refl (w : World) : Dr w w := ⟨0, rfl⟩
theorem Dr.drew {w w' : World} (h : Dr w w') : Dr w w'.drew := by obtain ⟨n, rfl⟩ := h; exact ⟨n + 1, rfl⟩
theorem Dr.drewN {w w' : World} (h : Dr w w') (m : Nat) : Dr w (w'.drewN m) := by obtain ⟨n, rfl⟩ := h; exact ⟨n + m, by rw [World.drewN_drewN]⟩
theorem Dr.trans {a b c : World} (h : Dr a b) (k : Dr b c) : Dr a c := by obtain ⟨m, rfl⟩ := k; exact h.drewN m
theorem Dr.ch {w w' : World} (h : Dr w w') (S : Nat → Prop) : Ch S w w' := by obtain ⟨n, rfl⟩ := h; exact (Ch.refl _ _).drewN n

theorem texts_any (A B : Option Addr) (c d : Nat) (xs ys : List ByteArray) (w : World) (hx : El.str.Row w A c xs) (hy : El.str.Row w B d ys) :
    Calls Tryd.prog 34 #[.slice A xs.length c, .slice B ys.length d] w fun e w' => e = .returned (.bool (decide (xs = ys))) ∧ Dr w w' := by
  have hlx := hx.len
  have hly := hy.len
  by_cases hl : xs.length = ys.length
  · have hb : ((xs.length : Int) != (ys.length : Int)) = false := by simp [hl]
    have HX := Lib.hid hx; have HY := Lib.hid hy; have HL := Lib.hid hl; clear hx hy hl
    go_enter Tryd.func34, Tryd.ntmps34
    go_wp2_with fail
    go_loopw [5] (fun i wr => ∃ k : Nat, k ≤ xs.length ∧ i = .int .i64 k ∧ Hid (xs.take k = ys.take k) ∧ Hid (Dr w wr)) (fun i _ => xs.length - (intOf i).toNat)
    case atStart => exact ⟨0, by omega, rfl, rfl, Dr.refl w⟩
    case round =>
      obtain ⟨k, hk, rfl, HE, HD⟩ := hrel
      by_cases hlt : k < xs.length
      · obtain ⟨a, rfl, hca⟩ := (HX.out.ch (HD.out.ch no)).flat_at k hlt
        have hlt2 : k < ys.length := by have := HL.out; omega
        obtain ⟨b, rfl, hcb⟩ := (HY.out.ch (HD.out.ch no)).flat_at k hlt2
        by_cases he : xs[k] = ys[k]
        · have hbe := beq_yes he
          have HE2 := Lib.hid (take_next HE.out hlt hlt2 he)
          clear he
          go_wp2_with fail
          go_quiet (fail)
          go_wp2_with fail
          go_roundw
          case rel => exact ⟨k + 1, by omega, by go_num, HE2, HD.out.drewN _⟩
          case measure => simp [intOf]; omega
        · have hbe := beq_no he
          have hne : decide (xs = ys) = false := decide_eq_false (fun h => he (by subst h; rfl))
          have HN := Lib.hid hne
          clear he hne
          go_wp2_with fail
          go_quiet (fail)
          go_wp2_with fail
          go_ret
          exact ⟨by rw [HN.out]; rfl, HD.out.drewN _⟩
      · have hee : decide (xs = ys) = true := decide_eq_true (by
          have h := HE.out
          have := HL.out
          rwa [List.take_of_length_le (by omega), List.take_of_length_le (by omega)] at h)
        have HN := Lib.hid hee
        clear hee
        go_wp2_with fail
        go_ret
        exact ⟨by rw [HN.out]; rfl, HD.out⟩
  · have hb : ((xs.length : Int) != (ys.length : Int)) = true := by simp; omega
    have hne : decide (xs = ys) = false := decide_eq_false (fun h => hl (by rw [h]))
    have HN := Lib.hid hne
    clear hne hl
    rw [HN.out]
    go_enter Tryd.func34, Tryd.ntmps34
    go_wp2_with fail
    go_ret
    exact ⟨rfl, Dr.refl w⟩


theorem equal_any (A B : Option Addr) (c d : Nat) (xs ys : List ByteArray) (w : World) (hx : El.str.Row w A c xs) (hy : El.str.Row w B d ys) :
    Calls Tryd.prog 149 #[.slice A xs.length c, .slice B ys.length d] w fun e w' => e = .returned (.bool (decide (xs = ys))) ∧ Dr w w' := by
  have hlx := hx.len
  have hly := hy.len
  by_cases hl : xs.length = ys.length
  · have hb : ((xs.length : Int) != (ys.length : Int)) = false := by simp [hl]
    have HX := Lib.hid hx; have HY := Lib.hid hy; have HL := Lib.hid hl; clear hx hy hl
    go_enter Tryd.func149, Tryd.ntmps149
    go_wp2_with fail
    go_loopw [13] (fun i wr => ∃ k : Nat, k ≤ xs.length ∧ i = .int .i64 k ∧ Hid (xs.take k = ys.take k) ∧ Hid (Dr w wr)) (fun i _ => xs.length - (intOf i).toNat)
    case atStart => exact ⟨0, by omega, rfl, rfl, Dr.refl w⟩
    case round =>
      obtain ⟨k, hk, rfl, HE, HD⟩ := hrel
      by_cases hlt : k < xs.length
      · obtain ⟨a, rfl, hca⟩ := (HX.out.ch (HD.out.ch no)).flat_at k hlt
        have hlt2 : k < ys.length := by have := HL.out; omega
        obtain ⟨b, rfl, hcb⟩ := (HY.out.ch (HD.out.ch no)).flat_at k hlt2
        by_cases he : xs[k] = ys[k]
        · have hbe := beq_yes he
          have HE2 := Lib.hid (take_next HE.out hlt hlt2 he)
          clear he
          go_wp2_with fail
          go_quiet (fail)
          go_wp2_with fail
          go_roundw
          case rel => exact ⟨k + 1, by omega, by go_num, HE2, HD.out.drewN _⟩
          case measure => simp [intOf]; omega
        · have hbe := beq_no he
          have hne : decide (xs = ys) = false := decide_eq_false (fun h => he (by subst h; rfl))
          have HN := Lib.hid hne
          clear he hne
          go_wp2_with fail
          go_quiet (fail)
          go_wp2_with fail
          go_ret
          exact ⟨by rw [HN.out]; rfl, HD.out.drewN _⟩
      · have hee : decide (xs = ys) = true := decide_eq_true (by
          have h := HE.out
          have := HL.out
          rwa [List.take_of_length_le (by omega), List.take_of_length_le (by omega)] at h)
        have HN := Lib.hid hee
        clear hee
        go_wp2_with fail
        go_ret
        exact ⟨by rw [HN.out]; rfl, HD.out⟩
  · have hb : ((xs.length : Int) != (ys.length : Int)) = true := by simp; omega
    have hne : decide (xs = ys) = false := decide_eq_false (fun h => hl (by rw [h]))
    have HN := Lib.hid hne
    clear hne hl
    rw [HN.out]
    go_enter Tryd.func149, Tryd.ntmps149
    go_wp2_with fail
    go_ret
    exact ⟨rfl, Dr.refl w⟩


theorem infoStr : (Tryd.prog.info? 9).map (fun i => (i.zero, i.size, i.bytes)) = some (some (.string ByteArray.empty), 1, 16) := by kernel_rfl
/-- A list of strings of a call's own. -/
abbrev OwnS (w : World) (B : Nat) (v : Value) (xs : List ByteArray) : Prop := w.ownsRow B 9 1 v xs.length (xs.map Value.string)
theorem own_empty (w : World) (e : TypeId) : (w.alloc (.cells #[] e)).ownsRow w.heap.size e 1 (.slice (some ⟨w.heap.size, 0, none⟩) 0 0) 0 [] :=
  ⟨by simp, .inr ⟨w.heap.size, 0, #[], rfl, Nat.le_refl _, bNew _ _, Nat.le_refl _, by unfold maxLen; omega, by simp, by simp⟩⟩

theorem clone_any (A : Option Addr) (c : Nat) (xs : List ByteArray) (w : World) (hx : El.str.Row w A c xs) (hb : xs.length * 16 ≤ 140737488355328) :
    Calls Tryd.prog 140 #[.slice A xs.length c] w fun e w' => ∃ v, e = .returned v ∧ OwnS w' w.heap.size v xs ∧ Ch no w w' := by
  have hlx := hx.len
  have hcm := hx.max
  have hlc := hx.le
  obtain ⟨i0, hi, hz0, hz1, hz2⟩ := info_parts infoStr
  cases A with
  | none =>
    have hc := hx.none_ rfl
    subst hc
    have hl : xs = [] := List.length_eq_zero_iff.1 (by omega)
    subst hl
    have hq := fun W => Lib.run_eql_slice_nil (P := Tryd.prog) W 25 9 none 0 0 0 0 Tryd.underlying25
    go_enter Tryd.func140, Tryd.ntmps140
    go_wp2_with fail
    go_ret
    exact ⟨_, rfl, ⟨by simp, .inl ⟨rfl, by simp⟩⟩, Ch.refl _ _⟩
  | some ad =>
    have hq := fun W => Lib.run_eql_slice_nil (P := Tryd.prog) W 25 9 (some ad) xs.length c 0 0 Tryd.underlying25
    have HX := Lib.hid hx; clear hx
    go_enter Tryd.func140, Tryd.ntmps140
    go_wp2_with (at_builtin; refine app_row (fun _ => rfl) rfl _ _ 25 rfl w.heap.size 9 i0 _ 16 Tryd.underlying25 hi hz0 hz1 hz2 rfl (.slice (some ⟨w.heap.size, 0, none⟩) 0 0) 0 [] rfl (own_empty _ _) (some ad) c xs rfl (HX.out.ch ((Ch.refl _ _).alloc _)) (by unfold maxLen at *; omega) (by omega) (by simp) ?_; intro v' w1 hown hgrow _)
    go_ret
    exact ⟨v', rfl, by simpa using hown, Vw.Ch.grown_new ((Ch.refl _ _).alloc _) hgrow (fun k hk => by simp [Value.ownBlock] at hk; omega)⟩

set_option maxRecDepth 100000 in
/-- slices.Grow of the nil list. -/
theorem grow_nil (n : Nat) (w : World) (hn : n * 16 ≤ 140737488355328) :
    Calls Tryd.prog 139 #[.slice none 0 0, .int .i64 n] w fun e w' => ∃ v, e = .returned v ∧ w'.ownsRow w.heap.size 9 1 v 0 [] ∧ Ch no w w' := by
  cases n with
  | zero =>
    go_enter Tryd.func139, Tryd.ntmps139
    go_wp2_with fail
    go_ret
    exact ⟨_, rfl, ⟨by simp, .inl ⟨rfl, rfl⟩⟩, Ch.refl _ _⟩
  | succ m =>
    obtain ⟨i0, hi, hz0, hz1, hz2⟩ := info_parts infoStr
    have hgo := grownCap_ge w (m + 1) 0 9
    have hgm := grownCap_le_maxLen w (m + 1) 0 9 (by unfold maxLen; omega)
    have hrz : ∀ ty, (Builtin.append_ #[25, 3] ty #[.slice none 0 0, .int .i64 ((m + 1 : Nat) : Int)]).run Tryd.prog w =
        .ok (.slice (some ⟨w.heap.size, 0, none⟩) (m + 1) (grownCap w (m + 1) 0 9)) (w.drew.alloc (.cells (#[] ++ Builtin.zeroCells (Value.string ByteArray.empty).cells (m + 1) ++ Builtin.zeroCells (Value.string ByteArray.empty).cells (grownCap w (m + 1) 0 9 - (m + 1))) 9)) := fun ty => by
      have hold : (Builtin.firstCells i0.size 0 (.slice none 0 0)).run Tryd.prog w.drew = .ok ([] : List Value).toArray w.drew := run_firstCells_none w.drew i0.size 0 0 0
      have h := Lib.run_append_grow_zeros w 25 3 ty 9 i0 (.string ByteArray.empty) .i64 .i64 Tryd.underlying25 Tryd.underlying3 hi hz0 none 0 0 [] hold (m + 1) (by omega) (by omega) (by omega) (by omega)
        (by rw [hz2]; omega)
        (growslice_fits (by omega) (by rw [hz2]; omega))
      simpa using h
    generalize grownCap w (m + 1) 0 9 = G at *
    have hG : G ≤ 9223372036854775807 := by unfold maxLen at hgm; omega
    go_enter Tryd.func139, Tryd.ntmps139
    go_wp2_with (at_builtin; refine Lib.wpList_append_run _ rfl _ _ _ _ rfl _ _ rfl rfl _ _ (hrz _) ?_)
    go_ret
    have hgm' : G ≤ maxLen := by unfold maxLen; omega
    refine ⟨_, rfl, ⟨by simp, .inr ⟨w.heap.size, G, _, rfl, Nat.le_refl _, bNew w.drew _, Nat.zero_le _, hgm', ?_, by simp⟩⟩, ((Ch.refl _ _).drew).alloc _⟩
    have hz : ∀ n, (Builtin.zeroCells (Value.string ByteArray.empty).cells n).size = n := fun n => by rw [size_zeroCells]; simp [Value.cells]
    simp only [size_zeroCells, Value.cells, Array.empty_append, Array.size_append]
    simp
    omega


theorem flat_len {xss : List (List ByteArray)} (k : Nat) : ((xss.take k).flatten).length ≤ xss.flatten.length := by
  conv => rhs; rw [← List.take_append_drop k xss]
  rw [List.flatten_append, List.length_append]; omega
theorem flat_next {α : Type} (xss : List (List α)) (k : Nat) (hk : k < xss.length) : (xss.take (k + 1)).flatten = (xss.take k).flatten ++ xss[k] := by
  rw [List.take_succ_eq_append_getElem hk, List.flatten_append]; simp

/-- How many the first lists have together. -/
def flN {α : Type} (xss : List (List α)) (k : Nat) : Nat := ((xss.take k).flatten).length
theorem flN_zero {α : Type} (xss : List (List α)) : flN xss 0 = 0 := by simp [flN]
theorem flN_next {α : Type} (xss : List (List α)) (k : Nat) (hk : k < xss.length) : flN xss (k + 1) = flN xss k + xss[k].length := by
  unfold flN; rw [flat_next xss k hk, List.length_append]
theorem flN_le {α : Type} (xss : List (List α)) (k : Nat) : flN xss k ≤ xss.flatten.length := by
  unfold flN
  conv => rhs; rw [← List.take_append_drop k xss]
  rw [List.flatten_append, List.length_append]; omega
theorem flN_all {α : Type} (xss : List (List α)) (k : Nat) (hk : xss.length ≤ k) : flN xss k = xss.flatten.length := by
  unfold flN; rw [List.take_of_length_le hk]

set_option maxRecDepth 100000 in
set_option maxHeartbeats 1000000 in
theorem concat_any (A : Option Addr) (c : Nat) (xss : List (List ByteArray)) (w : World) (hx : (El.str.slice).Row w A c xss) (hb : xss.flatten.length * 16 ≤ 140737488355328) :
    Calls Tryd.prog 123 #[.slice A xss.length c] w fun e w' => ∃ v, e = .returned v ∧ OwnS w' w.heap.size v xss.flatten ∧ Ch no w w' := by
  have hlx := hx.len
  obtain ⟨i0, hi, hz0, hz1, hz2⟩ := info_parts infoStr
  have HX := Lib.hid hx; clear hx
  have HB := Lib.hid hb; clear hb
  go_enter Tryd.func123, Tryd.ntmps123
  go_wp2_with fail
  go_loopw [3, 11] (fun s i wr => ∃ k : Nat, k ≤ xss.length ∧ i = .int .i64 k ∧ s = .int .i64 (flN xss k : Nat) ∧ w = wr) (fun _ i _ => xss.length - (intOf i).toNat)
  case atStart => exact ⟨0, by omega, rfl, by rw [flN_zero]; rfl, rfl⟩
  case round =>
    obtain ⟨k, hk, rfl, rfl, rfl⟩ := hrel
    by_cases hlt : k < xss.length
    · obtain ⟨ad, cs, rfl, ⟨A', c', hcs, hr⟩, hcell⟩ := HX.out.at_ k hlt
      subst hcs
      have hc0 := hcell 0 _ rfl
      simp [El.slice] at hc0
      have hle := flN_le xss (k + 1)
      have hnx := flN_next xss k hlt
      have hg1 : (flN xss k : Int) + (xss[k].length : Int) ≤ 8796093022208 := by have := HB.out; omega
      have HN := Lib.hid hnx
      clear hnx hle hcell hr
      go_wp2_with fail
      go_roundw
      case rel => exact ⟨k + 1, by omega, by go_num, by rw [HN.out]; go_num, trivial⟩
      case measure => simp [intOf]; omega
    · have hke : k = xss.length := by omega
      have HF := Lib.hid (show flN xss k = xss.flatten.length by rw [flN_all _ _ (by omega)])
      have hfb : (flN xss k : Nat) * 16 ≤ 140737488355328 := by rw [HF.out]; exact HB.out
      clear hke
      go_wp2_with fail
      refine (grow_nil (flN xss k) _ hfb).mono ?_
      rintro e w1 ⟨v, rfl, hown, hc⟩
      have HO := Lib.hid hown; have HC := Lib.hid hc; clear hown hc
      go_wp2_with fail
      go_loopw [6, 27] (fun v i wr => ∃ k : Nat, k ≤ xss.length ∧ i = .int .i64 k ∧ Hid (wr.ownsRow w.heap.size 9 1 v (flN xss k) ((xss.take k).flatten.map Value.string)) ∧ Hid (Ch no w wr)) (fun _ i _ => xss.length - (intOf i).toNat)
      case atStart => exact ⟨0, by omega, rfl, by rw [flN_zero]; simpa using HO, HC⟩
      case round =>
        clear HO HC
        obtain ⟨j, hj, rfl, HO, HC⟩ := hrel
        by_cases hlt2 : j < xss.length
        · obtain ⟨ad, cs, rfl, ⟨A', c', hcs, hr⟩, hcell⟩ := HX.out.at_ j hlt2
          subst hcs
          have hc0 := cell_ch HC.out (hcell 0 _ rfl)
          simp [El.slice] at hc0
          have hle := flN_le xss (j + 1)
          have hnx := flN_next xss j hlt2
          have HN := Lib.hid hnx
          have HH := Lib.hid hr
          have hbd : flN xss j + xss[j].length ≤ 8796093022208 := by have := HB.out; omega
          clear hnx hle hcell hr
          go_wp2_with (at_builtin; refine app_row (fun _ => rfl) rfl _ _ 25 rfl w.heap.size 9 i0 _ 16 Tryd.underlying25 hi hz0 hz1 hz2 rfl _ (flN xss j) _ rfl HO.out A' c' xss[j] rfl (HH.out.ch HC.out) (by unfold maxLen; omega) (by omega) HC.out.size ?_; intro v' w2 hown hgrow _)
          have HO2 := Lib.hid hown; have HC2 := Lib.hid (Vw.Ch.grown_new HC.out hgrow (own_ge HO.out)); clear hown hgrow
          go_wp2_with fail
          go_roundw
          case rel => exact ⟨j + 1, by omega, by go_num, by rw [HN.out, flat_next _ _ hlt2, List.map_append]; exact HO2, HC2⟩
          case measure => simp [intOf]; omega
        · have hje : j = xss.length := by omega
          have HF2 := Lib.hid (show flN xss j = xss.flatten.length by rw [flN_all _ _ (by omega)])
          have HJ := Lib.hid hje
          clear hje
          go_wp2_with fail
          go_ret
          refine ⟨_, rfl, ?_, HC.out⟩
          have h := HO.out
          rw [HF2.out, List.take_of_length_le (by have := HJ.out; omega)] at h
          exact h

end Go.Proofs.YtekeiieefkgopaaDoor.Ma
