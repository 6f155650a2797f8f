/- Lists of ids: held against each other, cloned, collected from an iterator. -/
import Derived.Shelf.Spec.SlicesGrow
import Derived.BigRegion
import Derived.Handy
import Derived.OwnWalkIn
import Derived.TacticsInMore

import Derived.Test.YtlmcbmgdhpoedaaMj
import Derived.Test.YtlmcbmgdhpoedaaMt
import Derived.Test.YtlmcbmgdhpoedaaDc
namespace Go.Proofs.Ytlmcbmgdhpoedaa.De
open Go.RowKit Go.Proofs.Ytlmcbmgdhpoedaa.Aa Go.Proofs.Ytlmcbmgdhpoedaa.Vw Go.Proofs.Ytlmcbmgdhpoedaa.Mr Go.Proofs.Ytlmcbmgdhpoedaa.Mj Go.Proofs.Ytlmcbmgdhpoedaa.Da Go.Proofs.Ytlmcbmgdhpoedaa.Db
attribute [local go_sem] Oper.semAt_some
set_option linter.unusedVariables false
set_option linter.unusedSimpArgs false

theorem al1 (w : World) (x : Obj) : (w.alloc x).heap[w.heap.size]? = some x := bNew w x
theorem own_shape {w : World} {base : Nat} {e : TypeId} {size n : Nat} {v : Value} {xs : List Value} (h : w.ownsRow base e size v n xs) : ∃ A c, v = .slice A n c := by
  obtain ⟨_, ⟨rfl, rfl⟩ | ⟨g, cap, cur, rfl, _⟩⟩ := h
  · exact ⟨_, _, rfl⟩
  · exact ⟨_, _, rfl⟩
/-- The world but for draws. -/
def Dr (w w' : World) : Prop := ∃ n, w' = w.drewN n
theorem Dr.refl (w : World) : Dr w w := ⟨0, rfl⟩
theorem Dr.drew {w w' : World} (h : Dr w w') : Dr w w'.drew := by obtain ⟨n, rfl⟩ := h; exact ⟨n + 1, rfl⟩
theorem Dr.drewN {w w' : World} (h : Dr w w') (m : Nat) : Dr w (w'.drewN m) := by obtain ⟨n, rfl⟩ := h; exact ⟨n + m, by rw [World.drewN_drewN]⟩
theorem Dr.trans {a b c : World} (h : Dr a b) (k : Dr b c) : Dr a c := by obtain ⟨m, rfl⟩ := k; exact h.drewN m
theorem Dr.ch {w w' : World} (h : Dr w w') (S : Nat → Prop) : Ch S w w' := by obtain ⟨n, rfl⟩ := h; exact (Ch.refl _ _).drewN n

theorem ids_any (A B : Option Addr) (c d : Nat) (xs ys : List ByteArray) (w : World) (hx : El.str.Row w A c xs) (hy : El.str.Row w B d ys) :
    Calls Try.prog 18 #[.slice A xs.length c, .slice B ys.length d] w fun e w' => e = .returned (.bool (decide (xs = ys))) ∧ Dr w w' := by
  have hlx := hx.len
  have hly := hy.len
  by_cases hl : xs.length = ys.length
  · have hb : ((xs.length : Int) != (ys.length : Int)) = false := by simp [hl]
    have HX := Lib.hid hx; have HY := Lib.hid hy; have HL := Lib.hid hl; clear hx hy hl
    go_enter Try.func18, Try.ntmps18
    go_wp2_with fail
    go_loopw [5] (fun i wr => ∃ k : Nat, k ≤ xs.length ∧ i = .int .i64 k ∧ Hid (xs.take k = ys.take k) ∧ Hid (Dr w wr)) (fun i _ => xs.length - (intOf i).toNat)
    case atStart => exact ⟨0, by omega, rfl, rfl, Dr.refl w⟩
    case round =>
      obtain ⟨k, hk, rfl, HE, HD⟩ := hrel
      by_cases hlt : k < xs.length
      · obtain ⟨a, rfl, hca⟩ := (HX.out.ch (HD.out.ch no)).flat_at k hlt
        have hlt2 : k < ys.length := by have := HL.out; omega
        obtain ⟨b, rfl, hcb⟩ := (HY.out.ch (HD.out.ch no)).flat_at k hlt2
        by_cases he : xs[k] = ys[k]
        · have hbe := beq_yes he
          have HE2 := Lib.hid (take_next HE.out hlt hlt2 he)
          clear he
          go_wp2_with fail
          go_quiet (fail)
          go_wp2_with fail
          go_roundw
          case rel => exact ⟨k + 1, by omega, by go_num, HE2, HD.out.drewN _⟩
          case measure => simp [intOf]; omega
        · have hbe := beq_no he
          have hne : decide (xs = ys) = false := decide_eq_false (fun h => he (by subst h; rfl))
          have HN := Lib.hid hne
          clear he hne
          go_wp2_with fail
          go_quiet (fail)
          go_wp2_with fail
          go_ret
          exact ⟨by rw [HN.out]; rfl, HD.out.drewN _⟩
      · have hee : decide (xs = ys) = true := decide_eq_true (by
          have h := HE.out
          have := HL.out
          rwa [List.take_of_length_le (by omega), List.take_of_length_le (by omega)] at h)
        have HN := Lib.hid hee
        clear hee
        go_wp2_with fail
        go_ret
        exact ⟨by rw [HN.out]; rfl, HD.out⟩
  · have hb : ((xs.length : Int) != (ys.length : Int)) = true := by simp; omega
    have hne : decide (xs = ys) = false := decide_eq_false (fun h => hl (by rw [h]))
    have HN := Lib.hid hne
    clear hne hl
    rw [HN.out]
    go_enter Try.func18, Try.ntmps18
    go_wp2_with fail
    go_ret
    exact ⟨rfl, Dr.refl w⟩


theorem infoStr : (Try.prog.info? 30).map (fun i => (i.zero, i.size, i.bytes)) = some (some (.string ByteArray.empty), 1, 16) := by kernel_rfl
/-- A list of strings of a call's own. -/
abbrev OwnS (w : World) (B : Nat) (v : Value) (xs : List ByteArray) : Prop := w.ownsRow B 30 1 v xs.length (xs.map Value.string)
theorem own_empty (w : World) (e : TypeId) : (w.alloc (.cells #[] e)).ownsRow w.heap.size e 1 (.slice (some ⟨w.heap.size, 0, none⟩) 0 0) 0 [] :=
  ⟨by simp, .inr ⟨w.heap.size, 0, #[], rfl, Nat.le_refl _, bNew _ _, Nat.le_refl _, by unfold maxLen; omega, by simp, by simp⟩⟩

theorem clone_any (A : Option Addr) (c : Nat) (xs : List ByteArray) (w : World) (hx : El.str.Row w A c xs) (hb : xs.length * 16 ≤ 140737488355328) :
    Calls Try.prog 47 #[.slice A xs.length c] w fun e w' => ∃ v, e = .returned v ∧ OwnS w' w.heap.size v xs ∧ Ch no w w' := by
  have hlx := hx.len
  have hcm := hx.max
  have hlc := hx.le
  obtain ⟨i0, hi, hz0, hz1, hz2⟩ := info_parts infoStr
  cases A with
  | none =>
    have hc := hx.none_ rfl
    subst hc
    have hl : xs = [] := List.length_eq_zero_iff.1 (by omega)
    subst hl
    have hq := fun W => Lib.run_eql_slice_nil (P := Try.prog) W 27 30 none 0 0 0 0 Try.underlying27
    go_enter Try.func47, Try.ntmps47
    go_wp2_with fail
    go_ret
    exact ⟨_, rfl, ⟨by simp, .inl ⟨rfl, by simp⟩⟩, Ch.refl _ _⟩
  | some ad =>
    have hq := fun W => Lib.run_eql_slice_nil (P := Try.prog) W 27 30 (some ad) xs.length c 0 0 Try.underlying27
    have HX := Lib.hid hx; clear hx
    go_enter Try.func47, Try.ntmps47
    go_wp2_with (at_builtin; refine app_row (fun _ => rfl) rfl _ _ 27 rfl w.heap.size 30 i0 _ 16 Try.underlying27 hi hz0 hz1 hz2 rfl (.slice (some ⟨w.heap.size, 0, none⟩) 0 0) 0 [] rfl (own_empty _ _) (some ad) c xs rfl (HX.out.ch ((Ch.refl _ _).alloc _)) (by unfold maxLen at *; omega) (by omega) (by simp) ?_; intro v' w1 hown hgrow _)
    go_ret
    exact ⟨v', rfl, by simpa using hown, Vw.Ch.grown_new ((Ch.refl _ _).alloc _) hgrow (fun k hk => by simp [Value.ownBlock] at hk; omega)⟩

/-- The slice in the making. -/
structure AI (w X : World) (T : Nat → Prop) (g B : Nat) (v : Value) (pre : List ByteArray) : Prop where
  ch : Ch T w X
  box : X.heap[g]? = some (.cells #[v] 27 (0, 0))
  own : OwnS X B v pre
theorem AI.keep {S T : Nat → Prop} {w X Y : World} {g B : Nat} {v : Value} {pre : List ByteArray} (h : AI w X T g B v pre) (hc : Ch S X Y) (h0 : ∀ k, S k → T k ∨ w.heap.size ≤ k) (hg : ¬ S g) (hv : ∀ k, v.ownBlock = some k → ¬ S k) : AI w Y T g B v pre :=
  ⟨⟨hc.os.trans h.ch.os, hc.tape.trans h.ch.tape, hc.output.trans h.ch.output, Nat.le_trans h.ch.size hc.size, fun k hk hn => (hc.block k (Nat.lt_of_lt_of_le hk h.ch.size) (fun hs => by rcases h0 k hs with h | h; exact hn h; omega)).trans (h.ch.block k hk hn)⟩,
    hc.blk h.box hg, own_ch h.own hc hv⟩

set_option maxRecDepth 100000 in
set_option maxHeartbeats 8000000 in
theorem appseq_of (gf : Nat) (lb : Array Value) (T : Nat → Prop) (xs : List ByteArray) (w : World) (heg : ∀ args w, (callFunc gf args).run Try.prog w = .ok (.enter gf args) w)
    (hT : ∀ k, T k → k < w.heap.size) (hlen : xs.length * 16 ≤ 1000000000) (hseq : ∀ (n : Nat) (U : Nat → Prop) (W : World), Ch no w W → (∀ k, U k → w.heap.size ≤ k) → Iter Fence.wide n Try.prog gf lb (fun x : ByteArray => #[.string x]) T U xs W) :
    Calls Try.prog 58 #[.slice none 0 0, .func (.func gf) #[] lb] w fun e w' => ∃ v, e = .returned v ∧ OwnS w' w.heap.size v xs ∧ Ch T w w' := by
  obtain ⟨i0, hi, hz0, hz1, hz2⟩ := info_parts infoStr
  have HT := Lib.hid hT; have HS := Lib.hid hseq; have HL := Lib.hid hlen
  clear hT hseq hlen
  refine (callsIn_wide (n := 9)).1 (callsIn_of_wp_marks Try.func58 rfl trivial ?_ rfl)
  simp only [Try.ntmps58, List.size_toArray, List.length_cons, List.length_nil, Nat.reduceAdd, Nat.reduceSub, Array.replicate_succ, Array.replicate_zero, List.push_toArray, List.append_toArray, List.nil_append, List.cons_append]
  refine wpIn_wide.2 ?_
  obtain ⟨g, hg⟩ : ∃ g, w.heap.size = g := ⟨_, rfl⟩
  have HG := Lib.hid hg
  have HI0 : Hid (AI w (w.alloc (.cells #[.slice none 0 0] 27)) T g (g + 3) (.slice none 0 0) []) := Lib.hid ⟨(Ch.refl _ _).alloc _, by rw [← hg]; exact al1 w _, ⟨rfl, .inl ⟨rfl, rfl⟩⟩⟩
  have hsz : (w.alloc (.cells #[.slice none 0 0] 27)).heap.size = g + 1 := by rw [← hg]; simp
  have HC0 : Hid (Ch no w (w.alloc (.cells #[.slice none 0 0] 27))) := Lib.hid ((Ch.refl no w).alloc _)
  have HSZ := Lib.hid hsz
  clear hg hsz
  go_wp2_with fail
  obtain ⟨W1, hW1⟩ : ∃ W1, w.alloc (.cells #[.slice none 0 0] 27) = W1 := ⟨_, rfl⟩
  rw [hW1] at HI0 HSZ HC0 ⊢
  rw [HG.out]
  clear hW1
  refine (wpIn_wide (n := 9)).1 ?_
  refine wpIn_range rfl (by omega) (gf := gf) (lb := lb) rfl trivial heg (encs := fun x : ByteArray => #[.string x]) (T := T) (V := fun k => k = g ∨ g + 3 ≤ k) (xs := xs) ?seq ?hT ?hV (fun _ => rfl)
    (fun pre X => ∃ v, Hid (AI w X T g (g + 3) v pre)) ?hI ⟨_, HI0⟩
    (fun x a' X => a' = { tmps := #[.slice none 0 0, .func (.func gf) #[] lb, .pointer (some ⟨g, 0, none⟩), undef, .slice none 0 0, .string x, .func (.func gf) #[] lb, .string x, undef, undef, undef, undef, undef], defers := [] }) ?hAx ?assign ?body ?done
  case seq =>
    have hz := HSZ.out; have hg := HG.out
    exact HS.out _ _ _ HC0.out (by rintro k ((h | h) | h | h) <;> omega)
  case hT =>
    intro k hk
    have := HT.out k hk; have hz := HSZ.out; have hg := HG.out
    omega
  case hV =>
    have hz := HSZ.out
    rintro k (h | h) <;> omega
  case hI =>
    have hz := HSZ.out; have hg := HG.out
    rintro pre A B ⟨v, HI⟩ hc
    refine ⟨v, Lib.hid (HI.out.keep hc ?_ ?_ ?_)⟩
    · rintro k (h | h | h)
      · exact .inl h
      · right; omega
      · right; omega
    · rintro (h | h | h)
      · have := HT.out _ h; omega
      · omega
      · omega
    · intro k hk
      have := own_ge HI.out.own k hk
      rintro (h | h | h)
      · have := HT.out _ h; omega
      · omega
      · omega
  case hAx => exact fun x a' A B h _ => h
  case assign =>
    intro l pre x X K hX hI hK
    gi_wp2_with fail
    exact hK _ _ (Ch.refl _ X) hI rfl
  case body =>
    rintro l pre x a' X hX ⟨v, HI⟩ rfl ⟨r, hr⟩
    have hpl : (pre.length + 1) * 16 ≤ 1000000000 := by
      have := HL.out; rw [hr] at this; simp at this; omega
    have HR := Lib.hid hr
    clear hr
    have hcb := (bCell HI.out.box 0).trans rfl
    have hXs : g + 3 ≤ X.heap.size := by have := HSZ.out; omega
    have HCA := Lib.hid ((Ch.refl no X).alloc (.cells #[.string x] 30))
    have HNW : Hid (∀ j u, ([.string x] : List Value)[j]? = some u → (X.alloc (.cells #[.string x] 30)).cell? ((⟨X.heap.size, 0, none⟩ : Addr).add j) = some u) := Lib.hid (by
      intro j u hj
      have e : (⟨X.heap.size, 0, none⟩ : Addr).add j = ⟨X.heap.size, j, none⟩ := by cases j <;> simp [Addr.add]
      rw [e, bCell (bNew X _) j]
      simpa using hj)
    have HON : Hid (∀ u ∈ ([.string x] : List Value), u.oneCell' = true) := Lib.hid (by
      intro u hu
      simp at hu
      subst hu; rfl)
    gi_wp2_with (gi_at_builtin; refine wpListIn_append_own _ rfl _ _ 27 rfl (g + 3) 30 i0 _ 1 16 Try.underlying27 hi hz0 hz1 hz2 rfl (by omega) v pre.length _ rfl (own_ch HI.out.own HCA.out (fun _ _ => no_not _)) ⟨X.heap.size, 0, none⟩ 1 1 [.string x] rfl rfl HNW.out HON.out (by unfold maxLen; omega) (by omega) (by simp; omega) ?_; intro v' w1 hown hgrow _; obtain ⟨A1, k1, hv'⟩ := own_shape hown; subst hv'; have hgc := grown_ch hgrow; have hb1 := hgc.blk (HCA.out.blk HI.out.box (no_not _)) (fun h => by have := own_ge HI.out.own _ h.symm; omega); have hf1 := bFree hb1 0; have hc1 := (bCell hb1 0).trans rfl; have HO1 := Lib.hid hown; have HGC := Lib.hid hgc; have HB1 := Lib.hid hb1; clear hown hgrow hgc hb1)
    have hs1 := Ch.set1 w1 g 0 (.slice A1 (pre.length + 1) k1)
    have hv1 : ∀ k, (Value.slice A1 (pre.length + 1) k1).ownBlock = some k → g + 3 ≤ k := own_ge HO1.out
    have hv0 : ∀ k, v.ownBlock = some k → g + 3 ≤ k := own_ge HI.out.own
    have hx1 : Ch (fun k => k = g ∨ g + 3 ≤ k) X (w1.setCell ⟨g, 0, none⟩ (.slice A1 (pre.length + 1) k1)) :=
      ((HCA.out.mono (fun _ h => h.elim)).same (HGC.out.mono (fun k h => .inr (hv0 k h.symm)))).same (hs1.mono (fun k h => .inl h))
    refine ⟨hx1, _, Lib.hid ⟨?_, bSet HB1.out 0 (.slice A1 (pre.length + 1) k1), ?_⟩⟩
    · have hc := HI.out.ch
      have hg := HG.out
      exact ⟨hx1.os.trans hc.os, hx1.tape.trans hc.tape, hx1.output.trans hc.output, Nat.le_trans hc.size hx1.size, fun k hk hn => (hx1.block k (Nat.lt_of_lt_of_le hk hc.size) (fun hs => by rcases hs with h | h <;> omega)).trans (hc.block k hk hn)⟩
    · exact own_ch (show w1.ownsRow (g + 3) 30 1 (.slice A1 (pre.length + 1) k1) (pre ++ [x]).length ((pre ++ [x]).map Value.string) by have := HO1.out; rw [List.length_append, List.map_append]; exact this) hs1 (fun k hk h => by have := hv1 k hk; have h' : k = g := h; omega)
  case done =>
    intro X ⟨v, HI⟩ hZ' hK
    have HKK := Lib.hid hK
    clear hK
    have hcb := (bCell HI.out.box 0).trans rfl
    go_wp2_with fail
    refine ⟨by simp, .inl ⟨_, _, rfl, run_takeDeferred HKK.out, ?_⟩⟩
    have hput := ch_putObj X W1.heap.size (.deferred none)
    have hz := HSZ.out; have hg := HG.out
    have hfin := HI.out.keep hput (fun k h => .inr (by have h' : k = W1.heap.size := h; omega)) (fun h => by have h' : g = W1.heap.size := h; omega) (fun k hk h => by have := own_ge HI.out.own k hk; have h' : k = W1.heap.size := h; omega)
    exact ⟨_, results_tmp rfl _ _ _, _, rfl, own_less hfin.own (by omega), hfin.ch⟩

set_option maxHeartbeats 1000000 in
theorem collect_of (gf : Nat) (lb : Array Value) (T : Nat → Prop) (xs : List ByteArray) (w : World) (heg : ∀ args w, (callFunc gf args).run Try.prog w = .ok (.enter gf args) w)
    (hT : ∀ k, T k → k < w.heap.size) (hlen : xs.length * 16 ≤ 1000000000) (hseq : ∀ (n : Nat) (U : Nat → Prop) (W : World), Ch no w W → (∀ k, U k → w.heap.size ≤ k) → Iter Fence.wide n Try.prog gf lb (fun x : ByteArray => #[.string x]) T U xs W) :
    Calls Try.prog 52 #[.func (.func gf) #[] lb] w fun e w' => ∃ v, e = .returned v ∧ OwnS w' w.heap.size v xs ∧ Ch T w w' := by
  have HT := Lib.hid hT; have HS := Lib.hid hseq; have HL := Lib.hid hlen; have HE := Lib.hid heg
  clear hT hseq hlen heg
  go_enter Try.func52, Try.ntmps52
  go_wp2_with fail
  refine (appseq_of gf lb T xs w HE.out HT.out HL.out HS.out).mono ?_
  rintro e w1 ⟨v, rfl, hown, hch⟩
  have HO := Lib.hid hown; have HC := Lib.hid hch
  clear hown hch
  go_wp2_with fail
  go_ret
  exact ⟨_, rfl, HO.out, HC.out⟩

end Go.Proofs.Ytlmcbmgdhpoedaa.De
