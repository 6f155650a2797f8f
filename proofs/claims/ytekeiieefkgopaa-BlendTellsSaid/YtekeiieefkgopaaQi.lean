/- The document's answer: to which cluster each edit belongs. -/
import Derived.Test.YtekeiieefkgopaaXd
import Derived.StillTailTactics
namespace Go.Proofs.Ytekeiieefkgopaa.Qi
open Go.RowKit Go.Proofs.Ytekeiieefkgopaa.Aa Go.Proofs.Ytekeiieefkgopaa.Vw Go.Proofs.Ytekeiieefkgopaa.Ma Go.Proofs.Ytekeiieefkgopaa.Mr Go.Proofs.Ytekeiieefkgopaa.Mb Go.Proofs.Ytekeiieefkgopaa.Mt Go.Proofs.Ytekeiieefkgopaa.Me Go.Proofs.Ytekeiieefkgopaa.Mf Go.Proofs.Ytekeiieefkgopaa.Mg Go.Proofs.Ytekeiieefkgopaa.Mh Go.Proofs.Ytekeiieefkgopaa.Mi Go.Proofs.Ytekeiieefkgopaa.Na Go.Proofs.Ytekeiieefkgopaa.Nb Go.Proofs.Ytekeiieefkgopaa.Nc Go.Proofs.Ytekeiieefkgopaa.Qm Go.Proofs.Ytekeiieefkgopaa.Qn
set_option linter.unusedVariables false
set_option linter.unusedSimpArgs false
theorem mnNat (k k' : IntKind) (a b : Nat) : Builtin.min2 (.int k (a : Int)) (.int k' (b : Int)) = pure (.int k ((min a b : Nat) : Int)) := by
  simp only [Builtin.min2]
  by_cases h : b < a
  · rw [if_pos (by omega), Nat.min_eq_right (by omega)]
  · rw [if_neg (by omega), Nat.min_eq_left (by omega)]
attribute [local go_sem] mnNat mnOp

/-- Edits at block g, their places as A says. -/
def EM (w : World) (g c : Nat) (es : List EditP) (A : Nat → Int) : Prop :=
  ∃ cur : Array Value, w.heap[g]? = some (.cells cur 81 (0, 0)) ∧ cur.size = c * 3 ∧ es.length ≤ c ∧ ∀ i e, es[i]? = some e → cur[i * 3]? = some (.int .i64 (A i)) ∧ cur[i * 3 + 1]? = some (.int .i64 (e.del : Nat)) ∧ ∃ Av cv, cur[i * 3 + 2]? = some (.slice Av e.ins.length cv)
def atI (es : List EditP) (i : Nat) : Int := (atF es i : Nat)
section
variable {w w' : World} {g c : Nat} {es : List EditP} {A : Nat → Int}
theorem EM.ch {S : Nat → Prop} (h : EM w g c es A) (hc : Ch S w w') (hs : ¬ S g) : EM w' g c es A := by
  obtain ⟨cur, hb, h1, h2, h3⟩ := h
  exact ⟨cur, hc.blk hb hs, h1, h2, h3⟩
theorem EM.at_ (h : EM w g c es A) (i : Nat) (hi : i < es.length) : ∃ Av cv, w.cell? ⟨g, i * 3, none⟩ = some (.int .i64 (A i)) ∧ w.cell? ⟨g, i * 3 + 1, none⟩ = some (.int .i64 (es[i].del : Nat)) ∧ w.cell? ⟨g, i * 3 + 2, none⟩ = some (.slice Av es[i].ins.length cv) ∧ w.frozen? ⟨g, i * 3, none⟩ = false := by
  obtain ⟨cur, hb, h1, h2, h3⟩ := h
  obtain ⟨a, b, Av, cv, d⟩ := h3 i _ (List.getElem?_eq_getElem hi)
  exact ⟨Av, cv, (bCell hb _).trans a, (bCell hb _).trans b, (bCell hb _).trans d, bFree hb _⟩
end

theorem atI_at (es : List EditP) (i : Nat) (hi : i < es.length) : atI es i = (es[i].at_ : Nat) := by unfold atI; rw [(atF_of (List.getElem?_eq_getElem hi)).1]

theorem meet_of (es : List EditP) (i k : Nat) (hi : i < es.length) (hk : k < es.length) (A B : Option Addr) (c d : Nat) (w : World) (hs : ∀ e ∈ es, e.at_ ≤ 100000000 ∧ e.del ≤ 100000000) :
    Calls Try.prog 71 #[.agg #[.int .i64 (es[i].at_ : Nat), .int .i64 (es[i].del : Nat), .slice A es[i].ins.length c], .agg #[.int .i64 (es[k].at_ : Nat), .int .i64 (es[k].del : Nat), .slice B es[k].ins.length d]] w fun e w' => e = .returned (.bool (meetB es i k)) ∧ Ch no w w' := by
  have h1 := hs _ (List.getElem_mem hi)
  have h2 := hs _ (List.getElem_mem hk)
  have HB : Hid (meetB es i k = (decide (es[i].at_ ≤ es[k].at_ + es[k].del) && decide (es[k].at_ ≤ es[i].at_ + es[i].del))) := by
    unfold meetB
    rw [(atF_of (List.getElem?_eq_getElem hi)).1, (atF_of (List.getElem?_eq_getElem hi)).2, (atF_of (List.getElem?_eq_getElem hk)).1, (atF_of (List.getElem?_eq_getElem hk)).2]
    exact Lib.hid rfl
  obtain ⟨a, ha⟩ : ∃ a, es[i].at_ = a := ⟨_, rfl⟩
  obtain ⟨b, hb⟩ : ∃ b, es[k].at_ = b := ⟨_, rfl⟩
  obtain ⟨x, hx⟩ : ∃ a, es[i].del = a := ⟨_, rfl⟩
  obtain ⟨y, hy⟩ : ∃ a, es[k].del = a := ⟨_, rfl⟩
  rw [ha, hb, hx, hy] at HB
  rw [ha, hb, hx, hy]
  rw [ha, hx] at h1
  rw [hb, hy] at h2
  clear ha hb hx hy
  by_cases c1 : a ≤ b + y
  · have c1i : (a : Int) ≤ (b : Int) + (y : Int) := by omega
    by_cases c2 : b ≤ a + x
    · have c2i : (b : Int) ≤ (a : Int) + (x : Int) := by omega
      go_enter Try.func71, Try.ntmps71
      go_wp2_with fail
      go_ret
      exact ⟨by rw [HB.out, decide_eq_true c1, decide_eq_true c2]; rfl, ((Ch.refl _ _).alloc _).alloc _⟩
    · have c2i : ¬ (b : Int) ≤ (a : Int) + (x : Int) := by omega
      go_enter Try.func71, Try.ntmps71
      go_wp2_with fail
      go_ret
      exact ⟨by rw [HB.out, decide_eq_true c1, decide_eq_false c2]; rfl, ((Ch.refl _ _).alloc _).alloc _⟩
  · have c1i : ¬ (a : Int) ≤ (b : Int) + (y : Int) := by omega
    go_enter Try.func71, Try.ntmps71
    go_wp2_with fail
    go_ret
    exact ⟨by rw [HB.out, decide_eq_false c1]; rfl, ((Ch.refl _ _).alloc _).alloc _⟩

/-- Marks in memory. -/
def RowI (w : World) (g n : Nat) (f : Nat → Nat) : Prop := ∃ rc : Array Value, w.heap[g]? = some (.cells rc 3 (0, 0)) ∧ n ≤ rc.size ∧ ∀ i, i < n → rc[i]? = some (.int .i64 (f i : Nat))
def MM (w0 w : World) (A : Option Addr) (n : Nat) (f : Nat → Nat) : Prop := n = 0 ∨ ∃ g, A = some ⟨g, 0, none⟩ ∧ w0.heap.size ≤ g ∧ RowI w g n f
theorem RowI.ch {S : Nat → Prop} {w w' : World} {g n : Nat} {f : Nat → Nat} (h : RowI w g n f) (hc : Ch S w w') (hs : ¬ S g) : RowI w' g n f := by
  obtain ⟨rc, hb, h1, h2⟩ := h
  exact ⟨rc, hc.blk hb hs, h1, h2⟩
theorem RowI.at_ {w : World} {g n : Nat} {f : Nat → Nat} (h : RowI w g n f) (i : Nat) (hi : i < n) : w.cell? ⟨g, i, none⟩ = some (.int .i64 (f i : Nat)) ∧ w.frozen? ⟨g, i, none⟩ = false := by
  obtain ⟨rc, hb, h1, h2⟩ := h
  exact ⟨(bCell hb _).trans (h2 i hi), bFree hb _⟩
theorem RowI.set {w : World} {g n : Nat} {f : Nat → Nat} (h : RowI w g n f) (i x : Nat) : RowI (w.setCell ⟨g, i, none⟩ (.int .i64 (x : Nat))) g n (upd f i x) := by
  obtain ⟨rc, hb, h1, h2⟩ := h
  refine ⟨rc.setIfInBounds i (.int .i64 (x : Nat)), bSet hb i _, by simpa using h1, fun j hj => ?_⟩
  unfold upd
  by_cases e : j = i
  · subst e
    rw [Array.getElem?_setIfInBounds_self_of_lt (by omega)]; simp
  · rw [Array.getElem?_setIfInBounds_ne (fun h => e h.symm)]
    simp only [if_neg e]; exact h2 j hj
theorem MM.ch {S : Nat → Prop} {w0 w w' : World} {A : Option Addr} {n : Nat} {f : Nat → Nat} (h : MM w0 w A n f) (hc : Ch S w w') (hs : ∀ k, w0.heap.size ≤ k → k < w.heap.size → ¬ S k) : MM w0 w' A n f := by
  rcases h with h | ⟨g, e, hg, h⟩
  · exact .inl h
  · refine .inr ⟨g, e, hg, h.ch hc (hs g hg ?_)⟩
    obtain ⟨rc, hb, _⟩ := h
    exact blk_lt' hb
/-- One value in a new row. -/
theorem one_row {α : Type} {enc : α → Value} (w : World) (x : α) (t : TypeId) : (El.flat enc).Row (w.alloc (.cells #[enc x] t)) (some ⟨w.heap.size, 0, none⟩) 1 [x] := by
  refine El.Row.flat_of (by simp) (by unfold maxLen; omega) (by simp) (fun k y hk => ⟨_, rfl, ?_⟩)
  cases k with
  | zero =>
    have e : x = y := by simpa using hk
    subst e
    rw [add_zero]
    exact (bCell (bNew w _) 0).trans rfl
  | succ k => simp at hk
def encN (n : Nat) : Value := .int .i64 (n : Nat)
theorem own_marks {w0 w : World} {v : Value} {n : Nat} (h : w.ownsRow w0.heap.size 3 1 v n ((List.range n).map encN)) : ∃ A c, v = .slice A n c ∧ MM w0 w A n id := by
  obtain ⟨_, ⟨rfl, rfl⟩ | ⟨g, cap, cur, rfl, hb, hg, hn, hc, hs, ht⟩⟩ := h
  · exact ⟨_, _, rfl, .inl rfl⟩
  · refine ⟨_, _, rfl, .inr ⟨g, rfl, hb, cur, hg, by simp at hs; omega, fun i hi => ?_⟩⟩
    have h1 : (cur.toList.take (n * 1))[i]? = ((List.range n).map encN)[i]? := by rw [ht]
    rw [List.getElem?_take, if_pos (by omega), Array.getElem?_toList] at h1
    rw [h1, List.getElem?_map, List.getElem?_range hi]
    rfl

set_option maxRecDepth 100000 in
set_option maxHeartbeats 8000000 in
theorem marks_of (es : List EditP) (g c : Nat) (w : World) (HE0 : EM w g c es (atI es)) (hsm : ∀ e ∈ es, e.at_ ≤ 100000000 ∧ e.del ≤ 100000000) (hn : es.length ≤ 1000000) :
    Calls Try.prog 51 #[.slice (some ⟨g, 0, none⟩) es.length c] w fun e w' => ∃ A c' f, e = .returned (.slice A es.length c') ∧ MM w w' A es.length f ∧ After es.length (meetB es) es.length f ∧ Ch no w w' := by
  have HE := Lib.hid HE0; clear HE0
  have hcE : es.length ≤ c := by obtain ⟨cur, _, _, h, _⟩ := HE.out; exact h
  obtain ⟨i0, hi, hz0, hz1, hz2⟩ := info_parts infoInt
  go_enter Try.func51, Try.ntmps51
  go_wp2_with fail
  go_loopw [3, 4] (fun v i wr => ∃ k : Nat, k ≤ es.length ∧ i = .int .i64 k ∧ Hid (wr.ownsRow w.heap.size 3 1 v k ((List.range k).map encN)) ∧ Hid (Ch no w wr)) (fun _ i _ => es.length - (intOf i).toNat)
  case atStart => exact ⟨0, by omega, rfl, ⟨rfl, .inl ⟨rfl, rfl⟩⟩, Ch.refl _ _⟩
  case round =>
    obtain ⟨k, hk, rfl, HO, HC⟩ := hrel
    by_cases hlt : k < es.length
    · go_wp2_with (at_builtin; refine app_row (enc := encN) (fun _ => rfl) rfl _ _ 78 rfl w.heap.size 3 i0 _ 8 Try.underlying78 hi hz0 hz1 hz2 rfl _ k _ rfl (own_ch HO.out ((Ch.refl no _).alloc _) (fun _ _ => no_not _)) (some ⟨wr.heap.size, 0, none⟩) 1 [k] rfl (one_row wr k 3) (by unfold maxLen; simp; omega) (by simp; omega) (by have := HC.out.size; simp; omega) ?_; intro v' w2 hown hgrow _; have HO2 := Lib.hid hown; have HC2 := Lib.hid (Vw.Ch.grown_new (HC.out.alloc _) hgrow (fun k hk => own_ge HO.out k hk)))
      go_roundw
      case rel => exact ⟨k + 1, by omega, by go_num, by rw [List.range_succ, List.map_append]; exact HO2.out, HC2.out⟩
      case measure => simp [intOf] <;> omega
    · have e : k = es.length := by omega
      subst e
      clear hlt hk
      obtain ⟨A, c3, rfl, hm⟩ := own_marks HO.out
      have HM := Lib.hid hm
      clear hm HO hi hz0 hz1 hz2
      go_wp2_with fail
      go_loopw [5] (fun i wr => ∃ (t : Nat) (f : Nat → Nat), t ≤ es.length ∧ i = .int .i64 t ∧ After es.length (meetB es) t f ∧ Hid (MM w wr A es.length f) ∧ Hid (Ch no w wr)) (fun i _ => es.length - (intOf i).toNat)
      case atStart => exact ⟨0, id, by omega, rfl, fun a _ => rfl, HM, HC⟩
      case round =>
        clear HM HC
        obtain ⟨t, f0, ht, rfl, hA, HM, HC⟩ := hrel
        by_cases htl : t < es.length
        · have HT0 := hA.turn
          have HA := Lib.hid hA
          clear hA
          obtain ⟨g3, rfl, hg3, hr3⟩ := Or.resolve_left HM.out (by omega)
          have HR := Lib.hid hr3
          clear hr3 HM
          go_wp2_with fail
          go_loopw [6] (fun i wr => ∃ (j : Nat) (f : Nat → Nat), j ≤ es.length ∧ i = .int .i64 j ∧ Turn es.length (meetB es) f0 f j 0 ∧ Hid (RowI wr g3 es.length f) ∧ Hid (Ch no w wr)) (fun i _ => es.length - (intOf i).toNat)
          case atStart => exact ⟨0, f0, by omega, rfl, HT0, HR, HC⟩
          case round =>
            clear HR HC HT0
            obtain ⟨i, f, hil', rfl, hT, HR, HC⟩ := hrel
            by_cases hil : i < es.length
            · have HT1 := Lib.hid hT
              clear hT
              go_wp2_with fail
              go_loopw [7] (fun v wr => ∃ (k : Nat) (f : Nat → Nat), k ≤ es.length ∧ v = .int .i64 k ∧ Hid (Turn es.length (meetB es) f0 f i k) ∧ Hid (RowI wr g3 es.length f) ∧ Hid (Ch no w wr)) (fun v _ => es.length - (intOf v).toNat)
              case atStart => exact ⟨0, f, by omega, rfl, HT1, HR, HC⟩
              case round =>
                clear HR HC HT1
                obtain ⟨k, f, hkl', rfl, HT, HR, HC⟩ := hrel
                by_cases hkl : k < es.length
                · obtain ⟨Ai, ci, e0, e1, e2, _⟩ := HE.out.at_ i hil
                  obtain ⟨Ak, ck, d0, d1, d2, _⟩ := HE.out.at_ k hkl
                  rw [atI_at es i hil] at e0
                  rw [atI_at es k hkl] at d0
                  go_upto_region 15 with (fail)
                  go_cut [8] (fun v8 wd => v8 = .bool (meetB es i k) ∧ Hid (RowI wd g3 es.length f) ∧ Hid (Ch no w wd))
                  case first =>
                    have hn := HR.out
                    refine wp_region_tail (G := gds [Gd.is ?r15v0, Gd.is ?r15v1, Gd.is ?r15v2, Gd.is (.agg #[.int .i64 (es[i].at_ : Nat), .int .i64 (es[i].del : Nat), .slice Ai es[i].ins.length ci]), Gd.is ?r15v4, Gd.is ?r15v5, Gd.is ?r15v6, Gd.is (.agg #[.int .i64 (es[k].at_ : Nat), .int .i64 (es[k].del : Nat), .slice Ak es[k].ins.length ck]), Gd.is (.bool (meetB es i k))]) 9 (by kernel_rfl) (by kernel_rfl) rfl (by kernel_rfl) gds_st ?obl15 ?fin15
                    case obl15 =>
                      simp only [Obls, and_true, List.take_succ_cons, List.take_zero]
                      refine ⟨?_, ?_, ?_, ?_, ?_, ?_, ?_, ?_, ?_⟩
                      · intro vs W hW hd
                        simp only [fill, List.setIfInBounds_toArray, List.set_cons_zero, List.set_cons_succ]
                        clear hd
                        go_wp2_with (fail)
                        refine ⟨rfl, rfl, Ch.refl _ _, gds_is rfl ?_⟩
                        (conv => lhs; whnf)
                      · intro vs W hW hd
                        simp only [fill, List.setIfInBounds_toArray, List.set_cons_zero, List.set_cons_succ]
                        clear hd
                        go_wp2_with (fail)
                        refine ⟨rfl, rfl, Ch.refl _ _, gds_is rfl ?_⟩
                        (conv => lhs; whnf)
                      · intro vs W hW hd
                        simp only [fill, List.setIfInBounds_toArray, List.set_cons_zero, List.set_cons_succ]
                        have d0 := gds_at rfl (hd ⟨0, .data⟩ (by simp) rfl)
                        have d1 := gds_at rfl (hd ⟨1, .data⟩ (by simp) rfl)
                        rw [d0, d1]
                        clear hd d0 d1
                        go_wp2_with (fail)
                        refine ⟨rfl, rfl, Ch.refl _ _, gds_is rfl ?_⟩
                        (conv => lhs; whnf)
                      · intro vs W hW hd
                        simp only [fill, List.setIfInBounds_toArray, List.set_cons_zero, List.set_cons_succ]
                        have d2 := gds_at rfl (hd ⟨2, .data⟩ (by simp) rfl)
                        rw [d2]
                        clear hd d2
                        have hWW := (Ch.refl no wr).drew.same hW
                        have q0 := cell_ch (HC.out.then_ hWW) e0; have q1 := cell_ch (HC.out.then_ hWW) e1; have q2 := cell_ch (HC.out.then_ hWW) e2
                        have r0 := cell_ch (HC.out.then_ hWW) d0; have r1 := cell_ch (HC.out.then_ hWW) d1; have r2 := cell_ch (HC.out.then_ hWW) d2
                        go_wp2_with (fail)
                        refine ⟨rfl, rfl, Ch.refl _ _, gds_is rfl ?_⟩
                        (conv => lhs; whnf)
                      · intro vs W hW hd
                        simp only [fill, List.setIfInBounds_toArray, List.set_cons_zero, List.set_cons_succ]
                        clear hd
                        go_wp2_with (fail)
                        refine ⟨rfl, rfl, Ch.refl _ _, gds_is rfl ?_⟩
                        (conv => lhs; whnf)
                      · intro vs W hW hd
                        simp only [fill, List.setIfInBounds_toArray, List.set_cons_zero, List.set_cons_succ]
                        clear hd
                        go_wp2_with (fail)
                        refine ⟨rfl, rfl, Ch.refl _ _, gds_is rfl ?_⟩
                        (conv => lhs; whnf)
                      · intro vs W hW hd
                        simp only [fill, List.setIfInBounds_toArray, List.set_cons_zero, List.set_cons_succ]
                        have d4 := gds_at rfl (hd ⟨4, .data⟩ (by simp) rfl)
                        have d5 := gds_at rfl (hd ⟨5, .data⟩ (by simp) rfl)
                        rw [d4, d5]
                        clear hd d4 d5
                        go_wp2_with (fail)
                        refine ⟨rfl, rfl, Ch.refl _ _, gds_is rfl ?_⟩
                        (conv => lhs; whnf)
                      · intro vs W hW hd
                        simp only [fill, List.setIfInBounds_toArray, List.set_cons_zero, List.set_cons_succ]
                        have d6 := gds_at rfl (hd ⟨6, .data⟩ (by simp) rfl)
                        rw [d6]
                        clear hd d6
                        have hWW := (Ch.refl no wr).drew.same hW
                        have q0 := cell_ch (HC.out.then_ hWW) e0; have q1 := cell_ch (HC.out.then_ hWW) e1; have q2 := cell_ch (HC.out.then_ hWW) e2
                        have r0 := cell_ch (HC.out.then_ hWW) d0; have r1 := cell_ch (HC.out.then_ hWW) d1; have r2 := cell_ch (HC.out.then_ hWW) d2
                        go_wp2_with (fail)
                        refine ⟨rfl, rfl, Ch.refl _ _, gds_is rfl ?_⟩
                        (conv => lhs; whnf)
                      · intro vs W hW hd
                        simp only [fill, List.setIfInBounds_toArray, List.set_cons_zero, List.set_cons_succ]
                        have d3 := gds_at rfl (hd ⟨3, .data⟩ (by simp) rfl)
                        have d7 := gds_at rfl (hd ⟨7, .data⟩ (by simp) rfl)
                        rw [d3, d7]
                        clear hd d3 d7
                        have hWW := (Ch.refl no wr).drew.same hW
                        have q0 := cell_ch (HC.out.then_ hWW) e0; have q1 := cell_ch (HC.out.then_ hWW) e1; have q2 := cell_ch (HC.out.then_ hWW) e2
                        have r0 := cell_ch (HC.out.then_ hWW) d0; have r1 := cell_ch (HC.out.then_ hWW) d1; have r2 := cell_ch (HC.out.then_ hWW) d2
                        go_wp2_with (refine (meet_of es i k hil hkl _ _ _ _ W hsm).mono ?_; rintro e w2 ⟨rfl, hch⟩)
                        exact ⟨rfl, rfl, hch, gds_is rfl rfl⟩
                    case fin15 =>
                      intro vs W hW hd
                      simp only [fill, List.setIfInBounds_toArray, List.set_cons_zero, List.set_cons_succ, List.take_succ_cons, List.take_zero, List.drop_succ_cons, List.drop_zero]
                      have d0 := gds_at rfl (hd 0 (by omega))
                      have d1 := gds_at rfl (hd 1 (by omega))
                      have d2 := gds_at rfl (hd 2 (by omega))
                      have d3 := gds_at rfl (hd 3 (by omega))
                      have d4 := gds_at rfl (hd 4 (by omega))
                      have d5 := gds_at rfl (hd 5 (by omega))
                      have d6 := gds_at rfl (hd 6 (by omega))
                      have d7 := gds_at rfl (hd 7 (by omega))
                      have d8 := gds_at rfl (hd 8 (by omega))
                      rw [d0, d1, d2, d3, d4, d5, d6, d7, d8]
                      clear hd d0 d1 d2 d3 d4 d5 d6 d7 d8
                      go_wp2_with fail
                      go_meet
                      case rel => exact ⟨rfl, HR.out.ch ((Ch.refl no wr).drew.same hW) (no_not _), HC.out.then_ ((Ch.refl no wr).drew.same hW)⟩
                  case rest =>
                    clear HR HC e0 e1 e2 d0 d1 d2
                    obtain ⟨rfl, HR, HC⟩ := hcut
                    cases hm : meetB es i k with
                    | false =>
                      have HM := Lib.hid hm
                      clear hm
                      go_wp2_with fail
                      go_roundw
                      case rel => exact ⟨k + 1, f, by omega, by go_num, HT.out.no HM.out, HR, HC⟩
                      case measure => simp [intOf] <;> omega
                    | true =>
                      have HM := Lib.hid hm
                      clear hm
                      obtain ⟨q0, q1⟩ := HR.out.at_ i hil
                      obtain ⟨q2, q3⟩ := HR.out.at_ k hkl
                      have hii : (i : Int) < (es.length : Int) := by omega
                      have hkk : (k : Int) < (es.length : Int) := by omega
                      go_wp2_with fail
                      go_still_tail 12, (by kernel_rfl)
                      show wpList _ _ _ _ _ wc.drew
                      go_wp2_with fail
                      go_roundw
                      case rel => exact ⟨k + 1, _, by omega, by go_num, HT.out.yes hil hkl HM.out, (HR.out.set i _).ch (Ch.refl no _).drew (no_not _), (HC.out.set (p := ⟨g3, i, none⟩) (.inr hg3) _).drew⟩
                      case measure => simp [intOf] <;> omega
                · have e : k = es.length := by omega
                  subst e
                  go_wp2_with fail
                  go_roundw
                  case rel => exact ⟨i + 1, f, by omega, by go_num, HT.out.row (Nat.le_refl _), HR, HC⟩
                  case measure => simp [intOf] <;> omega
            · have e : i = es.length := by omega
              subst e
              have HT := Lib.hid hT
              clear hT
              go_wp2_with fail
              go_roundw
              case rel => exact ⟨t + 1, f, by omega, by go_num, ⟨f0, HA.out, HT.out⟩, .inr ⟨g3, rfl, hg3, HR.out⟩, HC⟩
              case measure => simp [intOf] <;> omega
        · have e : t = es.length := by omega
          subst e
          have HA := Lib.hid hA
          clear hA
          go_wp2_with fail
          go_ret
          exact ⟨A, c3, f0, rfl, HM.out, HA.out, HC.out⟩
end Go.Proofs.Ytekeiieefkgopaa.Qi
