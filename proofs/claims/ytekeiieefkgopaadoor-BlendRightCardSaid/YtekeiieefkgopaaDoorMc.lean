/- A region's lines, by its kind. -/
import Derived.Test.YtekeiieefkgopaaDoorMb
namespace Go.Proofs.YtekeiieefkgopaaDoor.Mc
open Go.RowKit Go.Proofs.YtekeiieefkgopaaDoor.Aa Go.Proofs.YtekeiieefkgopaaDoor.Vw Go.Proofs.YtekeiieefkgopaaDoor.Ma Go.Proofs.YtekeiieefkgopaaDoor.Mr Go.Proofs.YtekeiieefkgopaaDoor.Mb
set_option linter.unusedVariables false
set_option linter.unusedSimpArgs false

/-- A span's lines. -/
def cutL (xs : List ByteArray) (f m : Int) : List ByteArray := (xs.take (f + m).toNat).drop f.toNat

theorem cutL_len (xs : List ByteArray) (f m : Int) (h0 : 0 ≤ f) (h1 : 0 ≤ m) (h2 : f + m ≤ xs.length) : (cutL xs f m).length = (f + m).toNat - f.toNat := by
  unfold cutL; rw [List.length_drop, List.length_take]; omega

theorem mcut_any (A : Option Addr) (c : Nat) (xs : List ByteArray) (f m : Int) (w : World) (hx : El.str.Row w A c xs) (h0 : 0 ≤ f) (h1 : 0 ≤ m) (h2 : f + m ≤ xs.length) :
    Calls Tryd.prog 120 #[.slice A xs.length c, .agg #[.int .i64 f, .int .i64 m]] w fun e w' => ∃ A' c', e = .returned (.slice A' (cutL xs f m).length c') ∧ El.str.Row w' A' c' (cutL xs f m) ∧ Ch no w w' := by
  have hl := hx.len
  have hc := hx.le
  obtain ⟨i0, hi, hz0, hz1, hz2⟩ := info_parts infoStr
  obtain ⟨A', hcut, hrow⟩ := cut_lh (P := Tryd.prog) (d := El.str) 25 9 .i64 .i64 Tryd.underlying25 hi hz1 A c xs f (f + m) h0 (by omega) h2 hc
  have HR := Lib.hid (hrow w hx); clear hrow
  have HX := Lib.hid hx; clear hx hi hz0 hz1 hz2
  go_enter Tryd.func120, Tryd.ntmps120
  go_wp2_with fail
  go_ret
  exact ⟨A', c - f.toNat, by rw [cutL_len xs f m h0 h1 h2]; rfl, HR.out.ch ((Ch.refl _ _).alloc _), (Ch.refl _ _).alloc _⟩

/-- A region's numbers. -/
structure Reg where
  k : Int
  of : Int
  om : Int
  af : Int
  am : Int
  bf : Int
  bm : Int
deriving DecidableEq
def Reg.cells (r : Reg) : List Value := [.int .i64 r.k, .int .i64 r.of, .int .i64 r.om, .int .i64 r.af, .int .i64 r.am, .int .i64 r.bf, .int .i64 r.bm]
abbrev Reg.val (r : Reg) : Value := .agg #[.int .i64 r.k, .int .i64 r.of, .int .i64 r.om, .int .i64 r.af, .int .i64 r.am, .int .i64 r.bf, .int .i64 r.bm]

theorem tell1_any (r : Reg) (b : Nat) (A : Option Addr) (c : Nat) (xs : List ByteArray) (w : World) (hb : w.heap[b]? = some (.cells #[.slice A xs.length c] 25 (0, 0))) (hx : El.str.Row w A c xs) (h0 : 0 ≤ r.af) (h1 : 0 ≤ r.am) (h2 : r.af + r.am ≤ xs.length) :
    Calls Tryd.prog 119 #[r.val, .pointer (some ⟨b, 0, none⟩)] w fun e w' => ∃ A' c', e = .returned (.slice A' (cutL xs r.af r.am).length c') ∧ El.str.Row w' A' c' (cutL xs r.af r.am) ∧ Ch no w w' := by
  have HX := Lib.hid hx; clear hx
  have HB := Lib.hid hb; clear hb
  obtain ⟨k, of, om, af, am, bf, bm⟩ := r
  simp only [] at h0 h1 h2
  have hcell := (bCell (Ch.blk ((Ch.refl no w).alloc (.cells #[.int .i64 k, .int .i64 of, .int .i64 om, .int .i64 af, .int .i64 am, .int .i64 bf, .int .i64 bm] 144)) HB.out (no_not _)) 0).trans rfl
  go_enter Tryd.func119, Tryd.ntmps119
  go_wp2_with fail
  refine (mcut_any A c xs af am _ (HX.out.ch ((Ch.refl _ _).alloc _)) h0 h1 h2).mono ?_
  rintro e w' ⟨A', c', rfl, hr, hc⟩
  have HR := Lib.hid hr; have HC := Lib.hid hc; clear hr hc
  go_wp2_with fail
  go_ret
  exact ⟨A', c', rfl, HR.out, ((Ch.refl _ _).alloc _).then_ HC.out⟩

theorem tell2_any (r : Reg) (b : Nat) (A : Option Addr) (c : Nat) (xs : List ByteArray) (w : World) (hb : w.heap[b]? = some (.cells #[.slice A xs.length c] 25 (0, 0))) (hx : El.str.Row w A c xs) (h0 : 0 ≤ r.bf) (h1 : 0 ≤ r.bm) (h2 : r.bf + r.bm ≤ xs.length) :
    Calls Tryd.prog 121 #[r.val, .pointer (some ⟨b, 0, none⟩)] w fun e w' => ∃ A' c', e = .returned (.slice A' (cutL xs r.bf r.bm).length c') ∧ El.str.Row w' A' c' (cutL xs r.bf r.bm) ∧ Ch no w w' := by
  have HX := Lib.hid hx; clear hx
  have HB := Lib.hid hb; clear hb
  obtain ⟨k, of, om, af, am, bf, bm⟩ := r
  simp only [] at h0 h1 h2
  have hcell := (bCell (Ch.blk ((Ch.refl no w).alloc (.cells #[.int .i64 k, .int .i64 of, .int .i64 om, .int .i64 af, .int .i64 am, .int .i64 bf, .int .i64 bm] 144)) HB.out (no_not _)) 0).trans rfl
  go_enter Tryd.func121, Tryd.ntmps121
  go_wp2_with fail
  refine (mcut_any A c xs bf bm _ (HX.out.ch ((Ch.refl _ _).alloc _)) h0 h1 h2).mono ?_
  rintro e w' ⟨A', c', rfl, hr, hc⟩
  have HR := Lib.hid hr; have HC := Lib.hid hc; clear hr hc
  go_wp2_with fail
  go_ret
  exact ⟨A', c', rfl, HR.out, ((Ch.refl _ _).alloc _).then_ HC.out⟩

/-- A value that reads as a list of strings. -/
def SL (xs : List ByteArray) (v : Value) (w : World) : Prop := ∃ A c, v = .slice A xs.length c ∧ El.str.Row w A c xs
theorem SL.ch {xs : List ByteArray} {v : Value} {w w' : World} (h : SL xs v w) (hc : Ch no w w') : SL xs v w' := by
  obtain ⟨A, c, rfl, hr⟩ := h; exact ⟨A, c, rfl, hr.ch hc⟩
theorem SL.of_own {w : World} {B : Nat} {v : Value} {xs : List ByteArray} (h : OwnS w B v xs) : SL xs v w := El.Row.of_own h
/-- A value that reads as a list of lists of strings. -/
def SLL (xss : List (List ByteArray)) (v : Value) (w : World) : Prop := ∃ A c, v = .slice A xss.length c ∧ El.str.slice.Row w A c xss
theorem SLL.ch {xs : List (List ByteArray)} {v : Value} {w w' : World} (h : SLL xs v w) (hc : Ch no w w') : SLL xs v w' := by
  obtain ⟨A, c, rfl, hr⟩ := h; exact ⟨A, c, rfl, hr.ch hc⟩
/-- One string in a new row. -/
theorem SL.one (w : World) (s : ByteArray) (t : TypeId) : SL [s] (.slice (some ⟨w.heap.size, 0, none⟩) 1 1) (w.alloc (.cells #[.string s] t)) := by
  refine ⟨_, 1, rfl, El.Row.flat_of (by simp) (by unfold maxLen; omega) (by simp) (fun k x hk => ⟨_, rfl, ?_⟩)⟩
  cases k with
  | zero =>
    have e : s = x := by simpa using hk
    subst e
    rw [add_zero]
    exact (bCell (bNew w _) 0).trans rfl
  | succ k => simp at hk
/-- Lists of strings in a new row. -/
theorem SLL.new (w : World) (t : TypeId) (vs : List Value) (xss : List (List ByteArray)) (n : Nat) (hn : xss.length = n) (hlen : vs.length = n) (hmax : n ≤ maxLen) (h : ∀ (i : Nat) (x : List ByteArray) (v : Value), xss[i]? = some x → vs[i]? = some v → SL x v w) :
    SLL xss (.slice (some ⟨w.heap.size, 0, none⟩) n n) (w.alloc (.cells vs.toArray t)) := by
  subst hn
  refine ⟨_, xss.length, rfl, Nat.le_refl _, hmax, by simp, fun i x hx => ?_⟩
  have hlt := (List.getElem?_eq_some_iff.1 hx).1
  have hv : vs[i]? = some (vs[i]'(by omega)) := List.getElem?_eq_getElem (by omega)
  obtain ⟨A, c, e, hr⟩ := h i x _ hx hv
  refine ⟨⟨w.heap.size, 0, none⟩, [.slice A x.length c], rfl, ⟨A, c, rfl, hr.ch ((Ch.refl _ _).alloc _)⟩, fun j u hj => ?_⟩
  cases j with
  | zero =>
    have eu : Value.slice A x.length c = u := by simpa using hj
    subst eu
    have ea : (Addr.add ⟨w.heap.size, 0, none⟩ (i * El.str.slice.sz + 0)) = ⟨w.heap.size, i, none⟩ := by
      simp only [El.slice, Nat.mul_one, Nat.add_zero]; unfold Addr.add; split <;> simp_all
    rw [ea]
    refine (bCell (bNew w _) i).trans ?_
    rw [List.getElem?_toArray, hv, e]
  | succ j => simp at hj

/-- The signs around what clashes. -/
def ours : ByteArray := ⟨#[60, 60, 60, 60, 60, 60, 60, 10]⟩
def base : ByteArray := ⟨#[124, 124, 124, 124, 124, 124, 124, 10]⟩
def middle : ByteArray := ⟨#[61, 61, 61, 61, 61, 61, 61, 10]⟩
def theirs : ByteArray := ⟨#[62, 62, 62, 62, 62, 62, 62, 10]⟩
/-- What stands there where a region clashes. -/
def clashParts (o a b : List ByteArray) (r : Reg) : List (List ByteArray) :=
  [[ours], (cutL a r.af r.am).map closeL, [base], (cutL o r.of r.om).map closeL, [middle], (cutL b r.bf r.bm).map closeL, [theirs]]

/-- A span's value. -/
def spanV (f m : Int) : Value := .agg #[.int .i64 f, .int .i64 m]
structure Caps (w : World) (b : Nat) (A : Option Addr) (c : Nat) (xs : List ByteArray) : Prop where
  blk : w.heap[b]? = some (.cells #[.slice A xs.length c] 25 (0, 0))
  row : El.str.Row w A c xs
  sz : xs.length * 16 ≤ 1000000
  ss : ∀ x ∈ xs, x.size ≤ 9223372036854775806
theorem Caps.ch {w w' : World} {b : Nat} {A : Option Addr} {c : Nat} {xs : List ByteArray} (h : Caps w b A c xs) (hc : Ch no w w') : Caps w' b A c xs := ⟨hc.blk h.blk (no_not _), h.row.ch hc, h.sz, h.ss⟩
theorem Caps.cell {w : World} {b : Nat} {A : Option Addr} {c : Nat} {xs : List ByteArray} (h : Caps w b A c xs) : w.cell? ⟨b, 0, none⟩ = some (.slice A xs.length c) := (bCell h.blk 0).trans rfl
theorem cut_mem {xs : List ByteArray} {f m : Int} {x : ByteArray} (h : x ∈ cutL xs f m) : x ∈ xs := List.mem_of_mem_take (List.mem_of_mem_drop h)

theorem SL.st (xs : List ByteArray) : Stb (SL xs) := fun _ _ _ h hc => h.ch hc
theorem SLL.st (xs : List (List ByteArray)) : Stb (SLL xs) := fun _ _ _ h hc => h.ch hc
theorem cutL_le (xs : List ByteArray) (f m : Int) : (cutL xs f m).length ≤ xs.length := by
  unfold cutL; rw [List.length_drop, List.length_take]; omega
theorem clash_len (o a b : List ByteArray) (r : Reg) : (clashParts o a b r).flatten.length ≤ o.length + a.length + b.length + 4 := by
  have h1 := cutL_le o r.of r.om
  have h2 := cutL_le a r.af r.am
  have h3 := cutL_le b r.bf r.bm
  simp [clashParts]
  omega
/-- What each operation's value is good for. -/
def clashG (g : Nat) (Aa Ao Ab : Option Addr) (ca co cb : Nat) (o a b : List ByteArray) (r : Reg) : List (Value → World → Prop) :=
  [SL [ours], fun v _ => v = .slice Aa a.length ca, fun v _ => v = .pointer (some ⟨g, 3, none⟩), fun v _ => v = spanV r.af r.am, SL (cutL a r.af r.am), SL ((cutL a r.af r.am).map closeL),
   SL [base], fun v _ => v = .slice Ao o.length co, fun v _ => v = .pointer (some ⟨g, 1, none⟩), fun v _ => v = spanV r.of r.om, SL (cutL o r.of r.om), SL ((cutL o r.of r.om).map closeL),
   SL [middle], fun v _ => v = .slice Ab b.length cb, fun v _ => v = .pointer (some ⟨g, 5, none⟩), fun v _ => v = spanV r.bf r.bm, SL (cutL b r.bf r.bm), SL ((cutL b r.bf r.bm).map closeL),
   SL [theirs], SLL (clashParts o a b r), SL (clashParts o a b r).flatten, SL (clashParts o a b r).flatten]
theorem clashG_st (g : Nat) (Aa Ao Ab : Option Addr) (ca co cb : Nat) (o a b : List ByteArray) (r : Reg) : ∀ x ∈ clashG g Aa Ao Ab ca co cb o a b r, Stb x := by
  intro x hx
  simp only [clashG, List.mem_cons, List.not_mem_nil, or_false] at hx
  rcases hx with rfl | rfl | rfl | rfl | rfl | rfl | rfl | rfl | rfl | rfl | rfl | rfl | rfl | rfl | rfl | rfl | rfl | rfl | rfl | rfl | rfl | rfl <;> first | exact SL.st _ | exact SLL.st _ | exact Stb.is _

set_option maxRecDepth 100000 in
set_option maxHeartbeats 4000000 in
theorem tell3_any (r : Reg) (ba bo bb : Nat) (Aa Ao Ab : Option Addr) (ca co cb : Nat) (o a b : List ByteArray) (w : World) (ha : Caps w ba Aa ca a) (ho : Caps w bo Ao co o) (hb : Caps w bb Ab cb b)
    (h0 : 0 ≤ r.af ∧ 0 ≤ r.am ∧ r.af + r.am ≤ a.length) (h1 : 0 ≤ r.of ∧ 0 ≤ r.om ∧ r.of + r.om ≤ o.length) (h2 : 0 ≤ r.bf ∧ 0 ≤ r.bm ∧ r.bf + r.bm ≤ b.length) :
    Calls Tryd.prog 122 #[r.val, .pointer (some ⟨ba, 0, none⟩), .pointer (some ⟨bo, 0, none⟩), .pointer (some ⟨bb, 0, none⟩)] w fun e w' => ∃ v, e = .returned v ∧ SL (clashParts o a b r).flatten v w' ∧ Ch no w w' := by
  have HA := Lib.hid ha; have HO := Lib.hid ho; have HB := Lib.hid hb
  have H0 := Lib.hid h0; have H1 := Lib.hid h1; have H2 := Lib.hid h2
  clear ha ho hb h0 h1 h2
  obtain ⟨g, hg⟩ : ∃ g, g = w.heap.size := ⟨_, rfl⟩
  have HG := Lib.hid hg; clear hg
  go_enter Tryd.func122, Tryd.ntmps122
  go_wp2_with fail
  refine wp_region_orders (G := ofL (clashG g Aa Ao Ab ca co cb o a b r)) (by kernel_rfl) (by kernel_rfl) (ofL_st (clashG_st g Aa Ao Ab ca co cb o a b r)) ?_ ?_
  · simp only [Obls, and_true]
    refine ⟨?_, ?_, ?_, ?_, ?_, ?_, ?_, ?_, ?_, ?_, ?_, ?_, ?_, ?_, ?_, ?_, ?_, ?_, ?_, ?_, ?_, ?_⟩
    · intro vs W hW hd; simp only [fill, List.setIfInBounds_toArray, List.set_cons_zero, List.set_cons_succ]
      go_wp2_with fail
      exact ⟨rfl, rfl, (Ch.refl _ _).alloc _, SL.one _ ours _⟩
    · intro vs W hW hd; simp only [fill, List.setIfInBounds_toArray, List.set_cons_zero, List.set_cons_succ]
      have hcell := (HA.out.ch (((Ch.refl no w).alloc _).drew.then_ hW)).cell
      go_wp2_with fail
      exact ⟨rfl, rfl, Ch.refl _ _, rfl⟩
    · intro vs W hW hd; simp only [fill, List.setIfInBounds_toArray, List.set_cons_zero, List.set_cons_succ]
      go_wp2_with fail
      exact ⟨rfl, rfl, Ch.refl _ _, by rw [HG.out]; rfl⟩
    · intro vs W hW hd; simp only [fill, List.setIfInBounds_toArray, List.set_cons_zero, List.set_cons_succ]
      have d := hd ⟨2, .data⟩ (by simp) rfl
      have d' : vs 2 = .pointer (some ⟨g, 3, none⟩) := d
      rw [d', HG.out]
      have hblk := hW.blk (bNew w _) (no_not _)
      have hc0 := (bCell hblk 3).trans rfl
      have hc1 := (bCell hblk 4).trans rfl
      clear d d' hd hblk
      go_wp2_with fail
      exact ⟨rfl, rfl, Ch.refl _ _, rfl⟩
    · intro vs W hW hd; simp only [fill, List.setIfInBounds_toArray, List.set_cons_zero, List.set_cons_succ]
      have d1 : vs 1 = .slice Aa a.length ca := hd ⟨1, .data⟩ (by simp) rfl
      have d2 : vs 3 = spanV r.af r.am := hd ⟨3, .data⟩ (by simp) rfl
      rw [d1, d2]; unfold spanV
      clear d1 d2 hd
      go_wp2_with fail
      refine (mcut_any Aa ca a r.af r.am _ (HA.out.ch (((Ch.refl no w).alloc _).drew.then_ hW)).row H0.out.1 H0.out.2.1 H0.out.2.2).mono ?_
      rintro e w' ⟨A', c', rfl, hr, hc⟩
      go_wp2_with fail
      exact ⟨rfl, rfl, hc, A', c', rfl, hr⟩
    · intro vs W hW hd; simp only [fill, List.setIfInBounds_toArray, List.set_cons_zero, List.set_cons_succ]
      obtain ⟨A', c', d1, hr⟩ : SL (cutL a r.af r.am) (vs 4) W := hd ⟨4, .data⟩ (by simp) rfl
      rw [d1]
      have HR := Lib.hid hr
      clear d1 hd hr
      go_wp2_with fail
      refine (closed_any A' c' _ _ HR.out (by have := cutL_le a r.af r.am; have := HA.out.sz; omega) (fun x hx => HA.out.ss x (cut_mem hx))).mono ?_
      rintro e w' ⟨v, rfl, ho, hc⟩
      go_wp2_with fail
      exact ⟨rfl, rfl, hc, SL.of_own ho⟩
    · intro vs W hW hd; simp only [fill, List.setIfInBounds_toArray, List.set_cons_zero, List.set_cons_succ]
      go_wp2_with fail
      exact ⟨rfl, rfl, (Ch.refl _ _).alloc _, SL.one _ base _⟩
    · intro vs W hW hd; simp only [fill, List.setIfInBounds_toArray, List.set_cons_zero, List.set_cons_succ]
      have hcell := (HO.out.ch (((Ch.refl no w).alloc _).drew.then_ hW)).cell
      go_wp2_with fail
      exact ⟨rfl, rfl, Ch.refl _ _, rfl⟩
    · intro vs W hW hd; simp only [fill, List.setIfInBounds_toArray, List.set_cons_zero, List.set_cons_succ]
      go_wp2_with fail
      exact ⟨rfl, rfl, Ch.refl _ _, by rw [HG.out]; rfl⟩
    · intro vs W hW hd; simp only [fill, List.setIfInBounds_toArray, List.set_cons_zero, List.set_cons_succ]
      have d := hd ⟨8, .data⟩ (by simp) rfl
      have d' : vs 8 = .pointer (some ⟨g, 1, none⟩) := d
      rw [d', HG.out]
      have hblk := hW.blk (bNew w _) (no_not _)
      have hc0 := (bCell hblk 1).trans rfl
      have hc1 := (bCell hblk 2).trans rfl
      clear d d' hd hblk
      go_wp2_with fail
      exact ⟨rfl, rfl, Ch.refl _ _, rfl⟩
    · intro vs W hW hd; simp only [fill, List.setIfInBounds_toArray, List.set_cons_zero, List.set_cons_succ]
      have d1 : vs 7 = .slice Ao o.length co := hd ⟨7, .data⟩ (by simp) rfl
      have d2 : vs 9 = spanV r.of r.om := hd ⟨9, .data⟩ (by simp) rfl
      rw [d1, d2]; unfold spanV
      clear d1 d2 hd
      go_wp2_with fail
      refine (mcut_any Ao co o r.of r.om _ (HO.out.ch (((Ch.refl no w).alloc _).drew.then_ hW)).row H1.out.1 H1.out.2.1 H1.out.2.2).mono ?_
      rintro e w' ⟨A', c', rfl, hr, hc⟩
      go_wp2_with fail
      exact ⟨rfl, rfl, hc, A', c', rfl, hr⟩
    · intro vs W hW hd; simp only [fill, List.setIfInBounds_toArray, List.set_cons_zero, List.set_cons_succ]
      obtain ⟨A', c', d1, hr⟩ : SL (cutL o r.of r.om) (vs 10) W := hd ⟨10, .data⟩ (by simp) rfl
      rw [d1]
      have HR := Lib.hid hr
      clear d1 hd hr
      go_wp2_with fail
      refine (closed_any A' c' _ _ HR.out (by have := cutL_le o r.of r.om; have := HO.out.sz; omega) (fun x hx => HO.out.ss x (cut_mem hx))).mono ?_
      rintro e w' ⟨v, rfl, ho, hc⟩
      go_wp2_with fail
      exact ⟨rfl, rfl, hc, SL.of_own ho⟩
    · intro vs W hW hd; simp only [fill, List.setIfInBounds_toArray, List.set_cons_zero, List.set_cons_succ]
      go_wp2_with fail
      exact ⟨rfl, rfl, (Ch.refl _ _).alloc _, SL.one _ middle _⟩
    · intro vs W hW hd; simp only [fill, List.setIfInBounds_toArray, List.set_cons_zero, List.set_cons_succ]
      have hcell := (HB.out.ch (((Ch.refl no w).alloc _).drew.then_ hW)).cell
      go_wp2_with fail
      exact ⟨rfl, rfl, Ch.refl _ _, rfl⟩
    · intro vs W hW hd; simp only [fill, List.setIfInBounds_toArray, List.set_cons_zero, List.set_cons_succ]
      go_wp2_with fail
      exact ⟨rfl, rfl, Ch.refl _ _, by rw [HG.out]; rfl⟩
    · intro vs W hW hd; simp only [fill, List.setIfInBounds_toArray, List.set_cons_zero, List.set_cons_succ]
      have d := hd ⟨14, .data⟩ (by simp) rfl
      have d' : vs 14 = .pointer (some ⟨g, 5, none⟩) := d
      rw [d', HG.out]
      have hblk := hW.blk (bNew w _) (no_not _)
      have hc0 := (bCell hblk 5).trans rfl
      have hc1 := (bCell hblk 6).trans rfl
      clear d d' hd hblk
      go_wp2_with fail
      exact ⟨rfl, rfl, Ch.refl _ _, rfl⟩
    · intro vs W hW hd; simp only [fill, List.setIfInBounds_toArray, List.set_cons_zero, List.set_cons_succ]
      have d1 : vs 13 = .slice Ab b.length cb := hd ⟨13, .data⟩ (by simp) rfl
      have d2 : vs 15 = spanV r.bf r.bm := hd ⟨15, .data⟩ (by simp) rfl
      rw [d1, d2]; unfold spanV
      clear d1 d2 hd
      go_wp2_with fail
      refine (mcut_any Ab cb b r.bf r.bm _ (HB.out.ch (((Ch.refl no w).alloc _).drew.then_ hW)).row H2.out.1 H2.out.2.1 H2.out.2.2).mono ?_
      rintro e w' ⟨A', c', rfl, hr, hc⟩
      go_wp2_with fail
      exact ⟨rfl, rfl, hc, A', c', rfl, hr⟩
    · intro vs W hW hd; simp only [fill, List.setIfInBounds_toArray, List.set_cons_zero, List.set_cons_succ]
      obtain ⟨A', c', d1, hr⟩ : SL (cutL b r.bf r.bm) (vs 16) W := hd ⟨16, .data⟩ (by simp) rfl
      rw [d1]
      have HR := Lib.hid hr
      clear d1 hd hr
      go_wp2_with fail
      refine (closed_any A' c' _ _ HR.out (by have := cutL_le b r.bf r.bm; have := HB.out.sz; omega) (fun x hx => HB.out.ss x (cut_mem hx))).mono ?_
      rintro e w' ⟨v, rfl, ho, hc⟩
      go_wp2_with fail
      exact ⟨rfl, rfl, hc, SL.of_own ho⟩
    · intro vs W hW hd; simp only [fill, List.setIfInBounds_toArray, List.set_cons_zero, List.set_cons_succ]
      go_wp2_with fail
      exact ⟨rfl, rfl, (Ch.refl _ _).alloc _, SL.one _ theirs _⟩
    · intro vs W hW hd; simp only [fill, List.setIfInBounds_toArray, List.set_cons_zero, List.set_cons_succ]
      obtain ⟨A0, c0, e0, r0⟩ : SL [ours] (vs 0) W := hd ⟨0, .data⟩ (by simp) rfl
      obtain ⟨A5, c5, e5, r5⟩ : SL ((cutL a r.af r.am).map closeL) (vs 5) W := hd ⟨5, .data⟩ (by simp) rfl
      obtain ⟨A6, c6, e6, r6⟩ : SL [base] (vs 6) W := hd ⟨6, .data⟩ (by simp) rfl
      obtain ⟨A11, c11, e11, r11⟩ : SL ((cutL o r.of r.om).map closeL) (vs 11) W := hd ⟨11, .data⟩ (by simp) rfl
      obtain ⟨A12, c12, e12, r12⟩ : SL [middle] (vs 12) W := hd ⟨12, .data⟩ (by simp) rfl
      obtain ⟨A17, c17, e17, r17⟩ : SL ((cutL b r.bf r.bm).map closeL) (vs 17) W := hd ⟨17, .data⟩ (by simp) rfl
      obtain ⟨A18, c18, e18, r18⟩ : SL [theirs] (vs 18) W := hd ⟨18, .data⟩ (by simp) rfl
      clear hd
      rw [e0, e5, e6, e11, e12, e17, e18]
      have D0 := Lib.hid r0
      have D5 := Lib.hid r5
      have D6 := Lib.hid r6
      have D11 := Lib.hid r11
      have D12 := Lib.hid r12
      have D17 := Lib.hid r17
      have D18 := Lib.hid r18
      clear r0 e0 r5 e5 r6 e6 r11 e11 r12 e12 r17 e17 r18 e18
      go_wp2_with fail
      refine ⟨rfl, rfl, (Ch.refl _ _).alloc _, SLL.new W _ [.slice A0 1 c0, .slice A5 (cutL a r.af r.am).length c5, .slice A6 1 c6, .slice A11 (cutL o r.of r.om).length c11, .slice A12 1 c12, .slice A17 (cutL b r.bf r.bm).length c17, .slice A18 1 c18] (clashParts o a b r) 7 rfl rfl (by unfold maxLen; omega) ?_⟩
      intro i x v hx hv
      match i, hx, hv with
      | 0, hx, hv => cases hx; cases hv; exact ⟨A0, c0, rfl, D0.out⟩
      | 1, hx, hv => cases hx; cases hv; exact ⟨A5, c5, by rw [List.length_map], D5.out⟩
      | 2, hx, hv => cases hx; cases hv; exact ⟨A6, c6, rfl, D6.out⟩
      | 3, hx, hv => cases hx; cases hv; exact ⟨A11, c11, by rw [List.length_map], D11.out⟩
      | 4, hx, hv => cases hx; cases hv; exact ⟨A12, c12, rfl, D12.out⟩
      | 5, hx, hv => cases hx; cases hv; exact ⟨A17, c17, by rw [List.length_map], D17.out⟩
      | 6, hx, hv => cases hx; cases hv; exact ⟨A18, c18, rfl, D18.out⟩
      | n + 7, hx, hv => simp at hv
    · intro vs W hW hd; simp only [fill, List.setIfInBounds_toArray, List.set_cons_zero, List.set_cons_succ]
      obtain ⟨A', c', d1, hr⟩ : SLL (clashParts o a b r) (vs 19) W := hd ⟨19, .data⟩ (by simp) rfl
      rw [d1]
      have HR := Lib.hid hr
      clear d1 hd hr
      go_wp2_with fail
      refine (concat_any A' c' _ _ HR.out ?_).mono ?_
      · have h1 := clash_len o a b r; have := HA.out.sz; have := HO.out.sz; have := HB.out.sz; omega
      · rintro e w' ⟨v, rfl, ho, hc⟩
        go_wp2_with fail
        exact ⟨rfl, rfl, hc, SL.of_own ho⟩
    · intro vs W hW hd; simp only [fill, List.setIfInBounds_toArray, List.set_cons_zero, List.set_cons_succ]
      have d := hd ⟨20, .data⟩ (by simp) rfl
      have D : Hid (SL (clashParts o a b r).flatten (vs 20) W) := d
      clear d hd
      go_wp2_with fail
      exact ⟨rfl, rfl, Ch.refl _ _, D.out⟩
  · intro vs W hW hall
    have h20 : SL (clashParts o a b r).flatten (vs 20) W := hall 20 (by simp)
    have h21 : SL (clashParts o a b r).flatten (vs 21) W := hall 21 (by simp)
    have HS := Lib.hid h21
    have HW := Lib.hid hW
    clear h20 h21 hall hW
    simp only [fill, List.setIfInBounds_toArray, List.set_cons_zero, List.set_cons_succ]
    go_wp2_with fail
    go_ret
    exact ⟨_, rfl, HS.out, (((Ch.refl no w).alloc _).drew).then_ HW.out⟩

end Go.Proofs.YtekeiieefkgopaaDoor.Mc
