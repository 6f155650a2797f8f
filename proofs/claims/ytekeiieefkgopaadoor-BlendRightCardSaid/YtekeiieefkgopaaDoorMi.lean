/- The edits between two lists. -/
import Derived.Test.YtekeiieefkgopaaDoorMh
import Derived.Test.YtekeiieefkgopaaDoorMs
import Derived.Deep.DeepCutAuto
import Derived.Deep.RegionHeld3
import Derived.StillTailTactics
namespace Go.Proofs.YtekeiieefkgopaaDoor.Mi
open Go.RowKit Go.Proofs.YtekeiieefkgopaaDoor.Aa Go.Proofs.YtekeiieefkgopaaDoor.Vw Go.Proofs.YtekeiieefkgopaaDoor.Ma Go.Proofs.YtekeiieefkgopaaDoor.Mr Go.Proofs.YtekeiieefkgopaaDoor.Mb Go.Proofs.YtekeiieefkgopaaDoor.Me Go.Proofs.YtekeiieefkgopaaDoor.Mf Go.Proofs.YtekeiieefkgopaaDoor.Mg Go.Proofs.YtekeiieefkgopaaDoor.Mh Go.Proofs.YtekeiieefkgopaaDoor.Ms
theorem mnNat (k k' : IntKind) (a b : Nat) : Builtin.min2 (.int k (a : Int)) (.int k' (b : Int)) = pure (.int k ((min a b : Nat) : Int)) := by
  simp only [Builtin.min2]
  by_cases h : b < a
  · rw [if_pos (by omega), Nat.min_eq_right (by omega)]
  · rw [if_neg (by omega), Nat.min_eq_left (by omega)]
attribute [local go_sem] mnNat mnOp
set_option linter.unusedVariables false
set_option linter.unusedSimpArgs false

/-- How many lines are alike in front; behind. -/
def frontN (a b : List ByteArray) : Nat := firstNot (sameAt a b) (min a.length b.length)
def endN (a b : List ByteArray) : Nat := firstNot (sameEnd a b) (min a.length b.length)
/-- The edits in the midst. -/
def midDiff (f : Nat) (x y : List ByteArray) : List EditP :=
  if x = [] ∧ y = [] then [] else if x = [] ∨ y = [] ∨ 65536 / y.length < x.length then [⟨f, x.length, y⟩] else grp (way x y) f false []
/-- The edits. -/
def diffOf (a b : List ByteArray) : List EditP :=
  midDiff (frontN a b) ((a.drop (frontN a b)).take ((a.drop (frontN a b)).length - endN (a.drop (frontN a b)) (b.drop (frontN a b)))) ((b.drop (frontN a b)).take ((b.drop (frontN a b)).length - endN (a.drop (frontN a b)) (b.drop (frontN a b))))
theorem frontN_le (a b : List ByteArray) : frontN a b ≤ a.length ∧ frontN a b ≤ b.length := by have := (firstNot_spec (sameAt a b) (min a.length b.length)).1; unfold frontN; omega
theorem endN_le (a b : List ByteArray) : endN a b ≤ a.length ∧ endN a b ≤ b.length := by have := (firstNot_spec (sameEnd a b) (min a.length b.length)).1; unfold endN; omega

/-- Two cells that hold lists. -/
structure Two (w0 w : World) (gx gy : Nat) (A B : Option Addr) (c d : Nat) (xs ys : List ByteArray) : Prop where
  hx : w.heap[gx]? = some (.cells #[.slice A xs.length c] 25 (0, 0))
  hy : w.heap[gy]? = some (.cells #[.slice B ys.length d] 25 (0, 0))
  rx : El.str.Row w A c xs
  ry : El.str.Row w B d ys
  ne : gx ≠ gy
  x0 : w0.heap.size ≤ gx
  y0 : w0.heap.size ≤ gy
  ch : Ch no w0 w
theorem Two.step {w0 w w' : World} {gx gy : Nat} {A B : Option Addr} {c d : Nat} {xs ys : List ByteArray} (h : Two w0 w gx gy A B c d xs ys) (hc : Ch no w w') : Two w0 w' gx gy A B c d xs ys :=
  ⟨hc.blk h.hx (no_not _), hc.blk h.hy (no_not _), h.rx.ch hc, h.ry.ch hc, h.ne, h.x0, h.y0, h.ch.then_ hc⟩

theorem two_new1 {w W : World} {A B : Option Addr} {c d : Nat} {xs ys : List ByteArray} (h : Ch no w W) (hx : El.str.Row W A c xs) (hy : El.str.Row W B d ys) :
    Two w ((W.alloc (.cells #[.slice A xs.length c] 25)).alloc (.cells #[.slice B ys.length d] 25)) W.heap.size (W.heap.size + 1) A B c d xs ys :=
  ⟨(Below.heap_alloc _ _ _ (by simp)).trans (bNew W _), by have := bNew (W.alloc (.cells #[.slice A xs.length c] 25)) (.cells #[.slice B ys.length d] 25); simpa using this, hx.ch (((Ch.refl no W).alloc _).alloc _), hy.ch (((Ch.refl no W).alloc _).alloc _), by omega, h.size, by have := h.size; omega, (h.alloc _).alloc _⟩
theorem Two.swap {w W : World} {gx gy : Nat} {A B : Option Addr} {c d : Nat} {xs ys : List ByteArray} (h : Two w W gx gy A B c d xs ys) : Two w W gy gx B A d c ys xs :=
  ⟨h.hy, h.hx, h.ry, h.rx, h.ne.symm, h.y0, h.x0, h.ch⟩
theorem Two.sets {w0 w : World} {gx gy : Nat} {A B A' B' : Option Addr} {c d c' d' : Nat} {xs ys xs' ys' : List ByteArray} (h : Two w0 w gx gy A B c d xs ys) (hx : El.str.Row w0 A' c' xs') (hy : El.str.Row w0 B' d' ys') :
    Two w0 ((w.setCell ⟨gx, 0, none⟩ (.slice A' xs'.length c')).setCell ⟨gy, 0, none⟩ (.slice B' ys'.length d')) gx gy A' B' c' d' xs' ys' := by
  have h1 := bSet h.hx 0 (.slice A' xs'.length c')
  have e1 : (w.setCell ⟨gx, 0, none⟩ (.slice A' xs'.length c')).heap[gy]? = some (.cells #[.slice B ys.length d] 25 (0, 0)) := (Ch.set1 w gx 0 (.slice A' xs'.length c')).blk h.hy (fun hh : gy = gx => h.ne hh.symm)
  have hc : Ch no w0 ((w.setCell ⟨gx, 0, none⟩ (.slice A' xs'.length c')).setCell ⟨gy, 0, none⟩ (.slice B' ys'.length d')) := (h.ch.set (p := ⟨gx, 0, none⟩) (.inr h.x0) _).set (p := ⟨gy, 0, none⟩) (.inr h.y0) _
  exact ⟨(Ch.set1 _ gy 0 _).blk (by simpa using h1) (fun hh : gx = gy => h.ne hh), by simpa using bSet e1 0 (.slice B' ys'.length d'), hx.ch hc, hy.ch hc, h.ne, h.x0, h.y0, hc⟩
theorem eo_one {W : World} {B : Nat} {v : Value} {ys : List ByteArray} (hown : OwnS W B v ys) (f n : Nat) (hB : B ≤ W.heap.size) :
    EO (W.alloc (.cells #[.int .i64 f, .int .i64 n, v] 188)) B (.slice (some ⟨W.heap.size, 0, none⟩) 1 1) [⟨f, n, ys⟩] := by
  refine .inr ⟨W.heap.size, 1, fun _ => v, rfl, ⟨⟨_, bNew W _, rfl, fun j e he => ?_⟩, fun j e he => ?_, fun a b hab hb => ?_, by simp, by unfold maxLen; omega, hB⟩⟩
  · cases j with
    | zero => have e1 : e = ⟨f, n, ys⟩ := by simpa using he.symm
              subst e1
              exact ⟨rfl, rfl, rfl⟩
    | succ j => simp at he
  · cases j with
    | zero => have e1 : e = ⟨f, n, ys⟩ := by simpa using he.symm
              subst e1
              exact own_ch hown ((Ch.refl no W).alloc _) (fun _ _ => no_not _)
    | succ j => simp at he
  · simp at hb; omega
theorem own_slice {w : World} {B : Nat} {e : TypeId} {size n : Nat} {v : Value} {xs : List Value} (h : w.ownsRow B e size v n xs) : ∃ A n c, v = .slice A n c := by
  obtain ⟨_, ⟨rfl, _⟩ | ⟨b, cap, cur, rfl, _⟩⟩ := h
  · exact ⟨_, _, _, rfl⟩
  · exact ⟨_, _, _, rfl⟩
theorem cutS_l (A : Option Addr) (c : Nat) (xs : List ByteArray) (f : Nat) (hm : f ≤ xs.length) : ∃ A' : Option Addr, (∀ W : World, (Instr.slice 25 (.slice A xs.length c) (some (.int .i64 f)) none none).run Tryd.prog W = .ok (.slice A' (xs.drop f).length (c - f)) W) ∧
      ∀ w : World, El.str.Row w A c xs → El.str.Row w A' (c - f) (xs.drop f) := by
  obtain ⟨i0, hi, hz0, hz1, hz2⟩ := info_parts infoStr
  obtain ⟨A', h1, h2⟩ := cut_l (P := Tryd.prog) (d := El.str) 25 9 .i64 Tryd.underlying25 hi hz1 A c xs (f : Int) (by omega) (by omega)
  exact ⟨A', h1, h2⟩
theorem cutS_h (A : Option Addr) (c : Nat) (xs : List ByteArray) (f : Nat) (hm : f ≤ xs.length) (hc : xs.length ≤ c) : (∀ W : World, (Instr.slice 25 (.slice A xs.length c) none (some (.int .i64 f)) none).run Tryd.prog W = .ok (.slice A (xs.take f).length c) W) := by
  obtain ⟨i0, hi, hz0, hz1, hz2⟩ := info_parts infoStr
  exact (cut_h (P := Tryd.prog) (d := El.str) 25 9 .i64 Tryd.underlying25 hi A c xs (f : Int) (by omega) (by omega) hc).1

set_option maxRecDepth 100000 in
set_option maxHeartbeats 2000000 in
theorem diff_any (A B : Option Addr) (c d : Nat) (xs ys : List ByteArray) (w : World) (hx : El.str.Row w A c xs) (hy : El.str.Row w B d ys) (hn : xs.length ≤ 1000000) (hm : ys.length ≤ 1000000) :
    Calls Tryd.prog 128 #[.slice A xs.length c, .slice B ys.length d] w fun e w' => ∃ v, e = .returned v ∧ EO w' w.heap.size v (diffOf xs ys) ∧ Ch no w w' := by
  have HX := Lib.hid hx; have HY := Lib.hid hy
  have hcx := hx.le; have hcy := hy.le
  clear hx hy
  go_enter Tryd.func128, Tryd.ntmps128
  go_wp2_with fail
  have H0 : Hid (Two w ((w.alloc (.cells #[.slice A xs.length c] 25)).alloc (.cells #[.slice B ys.length d] 25)) w.heap.size (w.heap.size + 1) A B c d xs ys) := two_new1 (Ch.refl no w) HX.out HY.out
  refine (common_any (min xs.length ys.length) 146 enters108 #[.pointer (some ⟨w.heap.size, 0, none⟩), .pointer (some ⟨w.heap.size + 1, 0, none⟩)] (sameAt xs ys) _ (by omega) (fun i W hi hd => by
    have h := H0.out.step (hd.ch no)
    exact front_any A B c d xs ys _ _ i W h.hx h.hy h.rx h.ry (by omega) (by omega))).mono ?_
  rintro e w1 ⟨rfl, hd⟩
  have H1 := Lib.hid (H0.out.step (hd.ch no)); clear H0 hd
  have hf := frontN_le xs ys
  have HF : Hid (firstNot (sameAt xs ys) (min xs.length ys.length) = frontN xs ys) := rfl
  obtain ⟨f, hfe⟩ : ∃ f, frontN xs ys = f := ⟨_, rfl⟩
  rw [HF.out, hfe]
  rw [hfe] at hf
  have HFE := Lib.hid hfe
  clear hfe HF
  go_wp2_with fail
  obtain ⟨A1, hcutx, hrx⟩ := cutS_l A c xs f hf.1
  obtain ⟨B1, hcuty, hry⟩ := cutS_l B d ys f hf.2
  obtain ⟨x1, hx1⟩ : ∃ l, xs.drop f = l := ⟨_, rfl⟩
  obtain ⟨y1, hy1⟩ : ∃ l, ys.drop f = l := ⟨_, rfl⟩
  rw [hx1] at hcutx hrx; rw [hy1] at hcuty hry
  have hlx1 : x1.length ≤ 1000000 := by rw [← hx1, List.length_drop]; omega
  have hly1 : y1.length ≤ 1000000 := by rw [← hy1, List.length_drop]; omega
  have HX1 := Lib.hid hx1; have HY1 := Lib.hid hy1
  have HRX := Lib.hid hrx; have HRY := Lib.hid hry
  clear hrx hry hx1 hy1
  have h1 := (bCell H1.out.hx 0).trans rfl
  have h2 := (bCell H1.out.hy 0).trans rfl
  go_cut [6, 7] (fun v6 v7 wc => ∃ gx gy : Nat, v6 = .pointer (some ⟨gx, 0, none⟩) ∧ v7 = .pointer (some ⟨gy, 0, none⟩) ∧ Hid (Two w wc gx gy A1 B1 (c - f) (d - f) x1 y1))
  case first =>
    have := World.new_ne w1 ⟨w.heap.size, 0, none⟩ h1
    have := World.new_ne w1 ⟨w.heap.size + 1, 0, none⟩ h2
    go_region_held3 (fun w' => w'.cell? ⟨w.heap.size, 0, none⟩ = some (.slice A xs.length c) ∧ w'.cell? ⟨w.heap.size + 1, 0, none⟩ = some (.slice B ys.length d)) (go_keep) (fail)
    · go_wp2_with fail
      go_meet
      case rel => exact ⟨_, _, rfl, rfl, (two_new1 H1.out.ch (HRX.out _ H1.out.rx) (HRY.out _ H1.out.ry)).step (Ch.refl no _).drew⟩
    · go_wp2_with fail
      go_meet
      case rel => exact ⟨_, _, rfl, rfl, (two_new1 H1.out.ch (HRY.out _ H1.out.ry) (HRX.out _ H1.out.rx)).swap.step (Ch.refl no _).drew⟩
  case rest =>
    obtain ⟨gx, gy, rfl, rfl, H2⟩ := hcut
    have HX1r := Lib.hid (HRX.out _ HX.out); have HY1r := Lib.hid (HRY.out _ HY.out)
    clear H1 HRX HRY hcutx hcuty h1 h2
    have q1 := (bCell H2.out.hx 0).trans rfl
    have q2 := (bCell H2.out.hy 0).trans rfl
    go_wp2_with fail
    refine (common_any (min x1.length y1.length) 147 enters109 #[.pointer (some ⟨gx, 0, none⟩), .pointer (some ⟨gy, 0, none⟩)] (sameEnd x1 y1) _ (by omega) (fun i W hi hd => by
      have h := H2.out.step (hd.ch no)
      exact end_any A1 B1 (c - f) (d - f) x1 y1 _ _ i W h.hx h.hy h.rx h.ry (by omega) (by omega))).mono ?_
    rintro e w2' ⟨rfl, hd⟩
    obtain ⟨w2, hw2⟩ : ∃ w2, w2 = w2' := ⟨_, rfl⟩
    rw [← hw2]
    rw [← hw2] at hd
    clear hw2
    have H3 := Lib.hid (H2.out.step (hd.ch no)); clear H2 hd q1 q2
    have hn := endN_le x1 y1
    have HF : Hid (firstNot (sameEnd x1 y1) (min x1.length y1.length) = endN x1 y1) := rfl
    obtain ⟨n, hne⟩ : ∃ n, endN x1 y1 = n := ⟨_, rfl⟩
    rw [HF.out, hne]
    rw [hne] at hn
    have HNE := Lib.hid hne
    clear hne HF
    obtain ⟨kx, hkx⟩ : ∃ kx, kx = x1.length - n := ⟨_, rfl⟩
    obtain ⟨ky, hky⟩ : ∃ ky, ky = y1.length - n := ⟨_, rfl⟩
    have hwx : IntKind.i64.wrap ((x1.length : Int) - n) = (kx : Int) := by rw [IntWalk.i64_in _ (by omega)]; omega
    have hwy : IntKind.i64.wrap ((y1.length : Int) - n) = (ky : Int) := by rw [IntWalk.i64_in _ (by omega)]; omega
    have hcx2 := H3.out.rx.le; have hcy2 := H3.out.ry.le
    have hcutx := cutS_h A1 (c - f) x1 kx (by omega) hcx2
    have hcuty := cutS_h B1 (d - f) y1 ky (by omega) hcy2
    obtain ⟨x2, hx2⟩ : ∃ l, x1.take kx = l := ⟨_, rfl⟩
    obtain ⟨y2, hy2⟩ : ∃ l, y1.take ky = l := ⟨_, rfl⟩
    rw [hx2] at hcutx; rw [hy2] at hcuty
    have hlx2 : x2.length ≤ x1.length := by rw [← hx2, List.length_take]; omega
    have hly2 : y2.length ≤ y1.length := by rw [← hy2, List.length_take]; omega
    have HX2 := Lib.hid hx2; have HY2 := Lib.hid hy2
    have HKX := Lib.hid hkx; have HKY := Lib.hid hky
    clear hx2 hy2 hkx hky hcx2 hcy2
    have q1 := (bCell H3.out.hx 0).trans rfl
    have q2 := (bCell H3.out.hy 0).trans rfl
    have f1 := bFree H3.out.hx 0
    have f2 := bFree H3.out.hy 0
    have hgne := H3.out.ne
    go_wp2_with fail
    go_cut [41] (fun _ wc => Hid (Two w wc gx gy A1 B1 (c - f) (d - f) x2 y2))
    case first =>
      refine wp_region_fixed (fun i => [Value.slice A1 x1.length (c - f), .slice A1 x1.length (c - f), .int .i64 x1.length, .int .i64 n, .int .i64 kx, .slice A1 x2.length (c - f), .slice B1 y1.length (d - f), .slice B1 y1.length (d - f), .int .i64 y1.length, .int .i64 n, .int .i64 ky, .slice B1 y2.length (d - f)].getD i undef)
        (wd2 w2.drew 12 13 ⟨gx, 0, none⟩ ⟨gy, 0, none⟩ (.slice A1 x2.length (c - f)) (.slice B1 y2.length (d - f))) (by kernel_rfl) (by kernel_rfl) rfl ?_ ?_
      · simp only [OblsF, and_true]
        refine ⟨?_, ?_, ?_, ?_, ?_, ?_, ?_, ?_, ?_, ?_, ?_, ?_, ?_, ?_⟩
        · intro D hcl hk hd
          have e12 := hcl.no 12 0 (by kernel_rfl) hk
          have e13 := hcl.no 13 0 (by kernel_rfl) hk
          rw [wd2_none e12 e13, wd2_also e12 e13 (by omega) (by omega)]
          simp only [fill, List.setIfInBounds_toArray, List.set_cons_zero, List.set_cons_succ]
          clear hcl hk hd e12 e13
          go_wp2_with fail
          exact ⟨rfl, rfl, fun _ => rfl, rfl⟩
        · intro D hcl hk hd
          have e12 := hcl.no 12 1 (by kernel_rfl) hk
          have e13 := hcl.no 13 1 (by kernel_rfl) hk
          rw [wd2_none e12 e13, wd2_also e12 e13 (by omega) (by omega)]
          simp only [fill, List.setIfInBounds_toArray, List.set_cons_zero, List.set_cons_succ]
          clear hcl hk hd e12 e13
          go_wp2_with fail
          exact ⟨rfl, rfl, fun _ => rfl, rfl⟩
        · intro D hcl hk hd
          have e12 := hcl.no 12 2 (by kernel_rfl) hk
          have e13 := hcl.no 13 2 (by kernel_rfl) hk
          rw [wd2_none e12 e13, wd2_also e12 e13 (by omega) (by omega)]
          simp only [fill, List.setIfInBounds_toArray, List.set_cons_zero, List.set_cons_succ]
          clear hcl hk hd e12 e13
          go_wp2_with fail
          exact ⟨rfl, rfl, fun _ => rfl, rfl⟩
        · intro D hcl hk hd
          have e12 := hcl.no 12 3 (by kernel_rfl) hk
          have e13 := hcl.no 13 3 (by kernel_rfl) hk
          rw [wd2_none e12 e13, wd2_also e12 e13 (by omega) (by omega)]
          simp only [fill, List.setIfInBounds_toArray, List.set_cons_zero, List.set_cons_succ]
          clear hcl hk hd e12 e13
          go_wp2_with fail
          exact ⟨rfl, rfl, fun _ => rfl, rfl⟩
        · intro D hcl hk hd
          have e12 := hcl.no 12 4 (by kernel_rfl) hk
          have e13 := hcl.no 13 4 (by kernel_rfl) hk
          rw [wd2_none e12 e13, wd2_also e12 e13 (by omega) (by omega)]
          simp only [fill, List.setIfInBounds_toArray, List.set_cons_zero, List.set_cons_succ]
          clear hcl hk hd e12 e13
          go_wp2_with fail
          exact ⟨rfl, rfl, fun _ => rfl, rfl⟩
        · intro D hcl hk hd
          have e12 := hcl.no 12 5 (by kernel_rfl) hk
          have e13 := hcl.no 13 5 (by kernel_rfl) hk
          rw [wd2_none e12 e13, wd2_also e12 e13 (by omega) (by omega)]
          simp only [fill, List.setIfInBounds_toArray, List.set_cons_zero, List.set_cons_succ]
          clear hcl hk hd e12 e13
          go_wp2_with fail
          exact ⟨rfl, rfl, fun _ => rfl, rfl⟩
        · intro D hcl hk hd
          have e13 := hcl.no 13 6 (by kernel_rfl) hk
          simp only [fill, List.setIfInBounds_toArray, List.set_cons_zero, List.set_cons_succ]
          cases e12 : D 12 with
          | false =>
            rw [wd2_none e12 e13, wd2_also e12 e13 (by omega) (by omega)]
            clear hcl hk hd e12 e13
            go_wp2_with fail
            exact ⟨rfl, rfl, fun _ => rfl, rfl⟩
          | true =>
            rw [wd2_first e12 e13, wd2_first_also e12 e13 (by omega) (by omega)]
            have q3 := set_far (a := ⟨gx, 0, none⟩) (v := .slice A1 x2.length (c - f)) (cell_ch (Ch.refl no w2).drew q2) (fun h => hgne h.symm)
            clear hcl hk hd e12 e13
            go_wp2_with fail
            exact ⟨rfl, rfl, fun _ => rfl, rfl⟩
        · intro D hcl hk hd
          have e13 := hcl.no 13 7 (by kernel_rfl) hk
          simp only [fill, List.setIfInBounds_toArray, List.set_cons_zero, List.set_cons_succ]
          cases e12 : D 12 with
          | false =>
            rw [wd2_none e12 e13, wd2_also e12 e13 (by omega) (by omega)]
            clear hcl hk hd e12 e13
            go_wp2_with fail
            exact ⟨rfl, rfl, fun _ => rfl, rfl⟩
          | true =>
            rw [wd2_first e12 e13, wd2_first_also e12 e13 (by omega) (by omega)]
            have q3 := set_far (a := ⟨gx, 0, none⟩) (v := .slice A1 x2.length (c - f)) (cell_ch (Ch.refl no w2).drew q2) (fun h => hgne h.symm)
            clear hcl hk hd e12 e13
            go_wp2_with fail
            exact ⟨rfl, rfl, fun _ => rfl, rfl⟩
        · intro D hcl hk hd
          have e13 := hcl.no 13 8 (by kernel_rfl) hk
          simp only [fill, List.setIfInBounds_toArray, List.set_cons_zero, List.set_cons_succ]
          cases e12 : D 12 with
          | false =>
            rw [wd2_none e12 e13, wd2_also e12 e13 (by omega) (by omega)]
            clear hcl hk hd e12 e13
            go_wp2_with fail
            exact ⟨rfl, rfl, fun _ => rfl, rfl⟩
          | true =>
            rw [wd2_first e12 e13, wd2_first_also e12 e13 (by omega) (by omega)]
            have q3 := set_far (a := ⟨gx, 0, none⟩) (v := .slice A1 x2.length (c - f)) (cell_ch (Ch.refl no w2).drew q2) (fun h => hgne h.symm)
            clear hcl hk hd e12 e13
            go_wp2_with fail
            exact ⟨rfl, rfl, fun _ => rfl, rfl⟩
        · intro D hcl hk hd
          have e13 := hcl.no 13 9 (by kernel_rfl) hk
          simp only [fill, List.setIfInBounds_toArray, List.set_cons_zero, List.set_cons_succ]
          cases e12 : D 12 with
          | false =>
            rw [wd2_none e12 e13, wd2_also e12 e13 (by omega) (by omega)]
            clear hcl hk hd e12 e13
            go_wp2_with fail
            exact ⟨rfl, rfl, fun _ => rfl, rfl⟩
          | true =>
            rw [wd2_first e12 e13, wd2_first_also e12 e13 (by omega) (by omega)]
            have q3 := set_far (a := ⟨gx, 0, none⟩) (v := .slice A1 x2.length (c - f)) (cell_ch (Ch.refl no w2).drew q2) (fun h => hgne h.symm)
            clear hcl hk hd e12 e13
            go_wp2_with fail
            exact ⟨rfl, rfl, fun _ => rfl, rfl⟩
        · intro D hcl hk hd
          have e13 := hcl.no 13 10 (by kernel_rfl) hk
          simp only [fill, List.setIfInBounds_toArray, List.set_cons_zero, List.set_cons_succ]
          cases e12 : D 12 with
          | false =>
            rw [wd2_none e12 e13, wd2_also e12 e13 (by omega) (by omega)]
            clear hcl hk hd e12 e13
            go_wp2_with fail
            exact ⟨rfl, rfl, fun _ => rfl, rfl⟩
          | true =>
            rw [wd2_first e12 e13, wd2_first_also e12 e13 (by omega) (by omega)]
            have q3 := set_far (a := ⟨gx, 0, none⟩) (v := .slice A1 x2.length (c - f)) (cell_ch (Ch.refl no w2).drew q2) (fun h => hgne h.symm)
            clear hcl hk hd e12 e13
            go_wp2_with fail
            exact ⟨rfl, rfl, fun _ => rfl, rfl⟩
        · intro D hcl hk hd
          have e13 := hcl.no 13 11 (by kernel_rfl) hk
          simp only [fill, List.setIfInBounds_toArray, List.set_cons_zero, List.set_cons_succ]
          cases e12 : D 12 with
          | false =>
            rw [wd2_none e12 e13, wd2_also e12 e13 (by omega) (by omega)]
            clear hcl hk hd e12 e13
            go_wp2_with fail
            exact ⟨rfl, rfl, fun _ => rfl, rfl⟩
          | true =>
            rw [wd2_first e12 e13, wd2_first_also e12 e13 (by omega) (by omega)]
            have q3 := set_far (a := ⟨gx, 0, none⟩) (v := .slice A1 x2.length (c - f)) (cell_ch (Ch.refl no w2).drew q2) (fun h => hgne h.symm)
            clear hcl hk hd e12 e13
            go_wp2_with fail
            exact ⟨rfl, rfl, fun _ => rfl, rfl⟩
        · intro D hcl hk hd
          have e13 := hcl.no 13 12 (by kernel_rfl) hk
          rw [wd2_none hk e13, wd2_i e13 (by omega)]
          simp only [fill, List.setIfInBounds_toArray, List.set_cons_zero, List.set_cons_succ]
          clear hcl hk hd e13
          go_wp2_with fail
          exact ⟨rfl, rfl, fun h => absurd rfl h, rfl⟩
        · intro D hcl hk hd
          have e12 : D 12 = true := hd ⟨12, .chain⟩ (by simp) rfl
          rw [wd2_first e12 hk, wd2_j e12 (by omega)]
          have q3 := set_far (a := ⟨gx, 0, none⟩) (v := .slice A1 x2.length (c - f)) (cell_ch (Ch.refl no w2).drew q2) (fun h => hgne h.symm)
          simp only [fill, List.setIfInBounds_toArray, List.set_cons_zero, List.set_cons_succ]
          clear hcl hk hd e12
          go_wp2_with fail
          exact ⟨rfl, rfl, fun h => absurd rfl h, rfl⟩
      · simp only [fill, List.setIfInBounds_toArray, List.set_cons_zero, List.set_cons_succ]
        go_wp2_with fail
        go_meet
        case rel => exact (H3.out.sets (by rw [← HX2.out]; exact HX1r.out.take kx) (by rw [← HY2.out]; exact HY1r.out.take ky)).step (Ch.refl no _).drew
    have H4 := hcut
    clear hcut
    clear H3 q1 q2 f1 f2 hcutx hcuty hwx hwy
    have q1 := (bCell H4.out.hx 0).trans rfl
    have q2 := (bCell H4.out.hy 0).trans rfl
    have HD : Hid (diffOf xs ys = midDiff f x2 y2) := by
      show diffOf xs ys = _
      unfold diffOf
      rw [HFE.out, HX1.out, HY1.out, HNE.out, ← HKX.out, ← HKY.out, HX2.out, HY2.out]
    by_cases hnil : x2 = [] ∧ y2 = []
    · obtain ⟨rfl, rfl⟩ := hnil
      go_wp2_with fail
      go_ret
      exact ⟨_, rfl, .inl ⟨rfl, by rw [HD.out]; rfl⟩, H4.out.ch⟩
    · by_cases hone : x2 = [] ∨ y2 = [] ∨ 65536 / y2.length < x2.length
      · have HM : Hid (midDiff f x2 y2 = [⟨f, x2.length, y2⟩]) := by
          show midDiff f x2 y2 = _
          unfold midDiff
          rw [if_neg hnil, if_pos hone]
        have hk : (x2 = [] ∧ y2 ≠ []) ∨ (x2 ≠ [] ∧ y2 = []) ∨ (x2 ≠ [] ∧ y2 ≠ [] ∧ 65536 / y2.length < x2.length) := by
          by_cases a1 : x2 = [] <;> by_cases a2 : y2 = [] <;> simp_all
        clear hnil hone
        have hpos : ∀ l : List ByteArray, l ≠ [] → ((l.length : Int) == 0) = false := fun l h => by
          have : l.length ≠ 0 := fun h0 => h (List.length_eq_zero_iff.1 h0)
          simp; exact h
        have HPOS := Lib.hid hpos
        clear hpos
        rcases hk with ⟨hx0, hy0⟩ | ⟨hx0, hy0⟩ | ⟨hx0, hy0, hbig⟩
        case' inl =>
          have n1 := HPOS.out _ hy0
          have n2 : ((x2.length : Int) == 0) = true := by rw [hx0]; rfl
          clear hx0 hy0
        case' inr.inl =>
          have n1 := HPOS.out _ hx0
          have n2 : ((y2.length : Int) == 0) = true := by rw [hy0]; rfl
          clear hx0 hy0
        case' inr.inr =>
          have n1 := HPOS.out _ hx0; have n2 := HPOS.out _ hy0
          have n4 : (y2.length : Int) ≠ 0 := by have : y2.length ≠ 0 := fun h0 => hy0 (List.length_eq_zero_iff.1 h0); omega
          obtain ⟨q, hq⟩ : ∃ q, 65536 / y2.length = q := ⟨_, rfl⟩
          have n5 : (65536 : Int).tdiv y2.length = (q : Int) := by rw [← hq]; simp [Int.tdiv]
          have n6 : (q : Int) ≤ 65536 := by have := Nat.div_le_self 65536 y2.length; omega
          have n7 : IntKind.i64.wrap (q : Int) = (q : Int) := IntWalk.i64_in _ (by omega)
          rw [hq] at hbig
          clear hx0 hy0 hq
        all_goals
          go_wp2_with fail
          go_quiet (fail)
          go_wp2_with fail
        all_goals
          refine wp_world (fun W => Hid (Two w W gx gy A1 B1 (c - f) (d - f) x2 y2)) (H4.out.step (by first | exact Ch.refl no _ | exact (Ch.refl no _).drewN _)) ?_
          intro w4 H5
          clear H4 q1 q2
          have q1 := (bCell H5.out.hx 0).trans rfl
          have q2 := (bCell H5.out.hy 0).trans rfl
          have hs5 := H5.out.ch.size
          go_region_held3 (fun w' => w'.cell? ⟨gx, 0, none⟩ = some (.slice A1 x2.length (c - f)) ∧ w'.cell? ⟨gy, 0, none⟩ = some (.slice B1 y2.length (d - f)))
            (first
              | exact ⟨cell_ch (Ch.refl no w4).drew q1, cell_ch (Ch.refl no w4).drew q2⟩
              | exact ⟨cell_ch ((Ch.refl no w4).drew.then_ hch) q1, cell_ch ((Ch.refl no w4).drew.then_ hch) q2⟩
              | exact ⟨cell_ch (((Ch.refl no w4).drew.then_ hch).alloc _) q1, cell_ch (((Ch.refl no w4).drew.then_ hch).alloc _) q2⟩
              | go_keep)
            ((go_at_call 140; refine (clone_any B1 (d - f) y2 _ (H5.out.step (Ch.refl no _).drew).ry (by omega)).mono ?_; rintro e w5 ⟨v, rfl, hown, hch⟩; obtain ⟨A6, l6, c6, rfl⟩ := own_slice hown))
          go_wp2_with fail
          go_ret
          exact ⟨_, rfl, by rw [HD.out, HM.out]; exact eo_one (own_less hown hs5) f x2.length (Nat.le_trans hs5 hch.size), ((H5.out.ch.drew.then_ hch).alloc _)⟩
      · have HM : Hid (midDiff f x2 y2 = grp (way x2 y2) f false []) := by
          show midDiff f x2 y2 = _
          unfold midDiff
          rw [if_neg hnil, if_neg hone]
        have hx0 : x2 ≠ [] := fun h => hone (.inl h)
        have hy0 : y2 ≠ [] := fun h => hone (.inr (.inl h))
        have hsm : ¬ 65536 / y2.length < x2.length := fun h => hone (.inr (.inr h))
        have n1 : ((x2.length : Int) == 0) = false := by have : x2.length ≠ 0 := fun h0 => hx0 (List.length_eq_zero_iff.1 h0); simp; exact hx0
        have n2 : ((y2.length : Int) == 0) = false := by have : y2.length ≠ 0 := fun h0 => hy0 (List.length_eq_zero_iff.1 h0); simp; exact hy0
        have n4 : (y2.length : Int) ≠ 0 := by have : y2.length ≠ 0 := fun h0 => hy0 (List.length_eq_zero_iff.1 h0); omega
        obtain ⟨q, hq⟩ : ∃ q, 65536 / y2.length = q := ⟨_, rfl⟩
        have n5 : (65536 : Int).tdiv y2.length = (q : Int) := by rw [← hq]; simp [Int.tdiv]
        have n6 : (q : Int) ≤ 65536 := by have := Nat.div_le_self 65536 y2.length; omega
        have n7 : IntKind.i64.wrap (q : Int) = (q : Int) := IntWalk.i64_in _ (by omega)
        rw [hq] at hsm
        clear hnil hone hx0 hy0 hq
        go_wp2_with fail
        go_quiet (fail)
        go_wp2_with fail
        have hs4 := H4.out.ch.size
        refine (walk_any f A1 B1 (c - f) (d - f) x2 y2 _ (H4.out.step ((Ch.refl no _).drewN _)).rx (H4.out.step ((Ch.refl no _).drewN _)).ry (by omega) (by omega) (by omega)).mono ?_
        rintro e w5 ⟨v, rfl, heo, hch⟩
        go_wp2_with fail
        go_ret
        exact ⟨v, rfl, by rw [HD.out, HM.out]; exact heo.less hs4, (H4.out.ch.drewN _).then_ hch⟩

end Go.Proofs.YtekeiieefkgopaaDoor.Mi
