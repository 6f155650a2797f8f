/- The clusters, handed out one by one. -/
import Derived.Test.YtekeiieefkgopaaDoorNc
import Derived.Test.YtekeiieefkgopaaDoorMj
import Derived.Deep.DeepCutAuto
import Derived.Deep.CutBlock
import Derived.Deep.LoopGhost
import Derived.BigQuiet
import Derived.TacticsInMore
import Derived.OwnWalkIn
import Derived.LoopNIn
import Derived.LoopIn
namespace Go.Proofs.YtekeiieefkgopaaDoor.Nd
open Go.RowKit Go.Proofs.YtekeiieefkgopaaDoor.Aa Go.Proofs.YtekeiieefkgopaaDoor.Vw Go.Proofs.YtekeiieefkgopaaDoor.Ma Go.Proofs.YtekeiieefkgopaaDoor.Mr Go.Proofs.YtekeiieefkgopaaDoor.Mb Go.Proofs.YtekeiieefkgopaaDoor.Mc Go.Proofs.YtekeiieefkgopaaDoor.Me Go.Proofs.YtekeiieefkgopaaDoor.Mf Go.Proofs.YtekeiieefkgopaaDoor.Mg Go.Proofs.YtekeiieefkgopaaDoor.Mh Go.Proofs.YtekeiieefkgopaaDoor.Mi Go.Proofs.YtekeiieefkgopaaDoor.Mj Go.Proofs.YtekeiieefkgopaaDoor.Mt Go.Proofs.YtekeiieefkgopaaDoor.Na Go.Proofs.YtekeiieefkgopaaDoor.Nb Go.Proofs.YtekeiieefkgopaaDoor.Nc
set_option linter.unusedVariables false
set_option linter.unusedSimpArgs false

theorem clusters_of (vl vr : Value) (w : World) (h1 : ∃ A n c, vl = .slice A n c) (h2 : ∃ A n c, vr = .slice A n c) :
    Calls Tryd.prog 127 #[.agg #[vl, vr]] w fun e w' => e = .returned (.func (.func 143) #[] #[.pointer (some ⟨w.heap.size, 0, none⟩)]) ∧ w'.heap[w.heap.size]? = some (.cells #[vl, vr] 162 (0, 0)) ∧ Ch no w w' := by
  obtain ⟨A, n, c, rfl⟩ := h1
  obtain ⟨B, m, d, rfl⟩ := h2
  have hb := Lib.hid (al1 w (.cells #[.slice A n c, .slice B m d] 162))
  go_enter Tryd.func127, Tryd.ntmps127
  go_wp2_with fail
  go_ret
  exact ⟨rfl, hb.out, (Ch.refl no w).alloc _⟩

/-- The iterator between two rounds. -/
structure It (w0 w : World) (b : Nat) (Fx : Nat → Prop) (J : List Clu → World → Prop) (xs : List Clu) (n : Nat) (L R : List EditP) (vL vR : Value) (pre : List Clu) : Prop where
  eq : xs = pre ++ clus n L R
  le : L.length + R.length ≤ n
  j : J pre w
  blk : w.heap[b]? = some (.cells #[vL, vR] 162 (0, 0))
  l : ES Fx w L vL
  r : ES Fx w R vR
  sl : SmallE L
  sr : SmallE R
  sz : w0.heap.size ≤ w.heap.size

theorem It.step {w0 w w' : World} {b : Nat} {Fx : Nat → Prop} {J : List Clu → World → Prop} {xs : List Clu} {n : Nat} {L R : List EditP} {vL vR : Value} {pre : List Clu} (h : It w0 w b Fx J xs n L R vL vR pre) (hc : Ch no w w') (hj : J pre w') : It w0 w' b Fx J xs n L R vL vR pre :=
  ⟨h.eq, h.le, hj, hc.blk h.blk (no_not _), h.l.keep hc (fun _ _ => no_not _), h.r.keep hc (fun _ _ => no_not _), h.sl, h.sr, Nat.le_trans h.sz hc.size⟩

/-- A cluster in the making. -/
structure In2 (wc w : World) (b g : Nat) (Fx : Nat → Prop) (T : Clu × List EditP × List EditP) (cl : Clu) (L R : List EditP) (vl vr : Value) : Prop where
  tgt : meets cl L R = T
  blk : w.heap[b]? = some (.cells #[vl, vr] 162 (0, 0))
  cblk : w.heap[g]? = some (.cells cl.cells 165 (0, 0))
  l : ES Fx w L vl
  r : ES Fx w R vr
  bnd : Bnd cl L R
  ch : Ch (fun k => k = b ∨ k = g) wc w
  gs : wc.heap.size ≤ g
  ne : g ≠ b
  fb : ¬ Fx b
  fg : ¬ Fx g
theorem In2.step {wc w w' : World} {b g : Nat} {Fx : Nat → Prop} {T : Clu × List EditP × List EditP} {cl : Clu} {L R : List EditP} {vl vr : Value} (h : In2 wc w b g Fx T cl L R vl vr) (hc : Ch no w w') : In2 wc w' b g Fx T cl L R vl vr :=
  ⟨h.tgt, hc.blk h.blk (no_not _), hc.blk h.cblk (no_not _), h.l.keep hc (fun _ _ => no_not _), h.r.keep hc (fun _ _ => no_not _), h.bnd, h.ch.then_ hc, h.gs, h.ne, h.fb, h.fg⟩
/-- It meets the cluster. -/
def canTake (cl : Clu) (L : List EditP) : Prop := ∃ e l, L = e :: l ∧ e.at_ ≤ cl.to_

theorem meets_done {cl : Clu} {L R : List EditP} (h1 : ¬ canTake cl L) (h2 : ¬ canTake cl R) : meets cl L R = (cl, L, R) := by
  cases L with
  | nil => cases R with
    | nil => rw [meets]
    | cons f r => rw [meets, if_neg (fun h => h2 ⟨f, r, rfl, h⟩)]
  | cons e l => cases R with
    | nil => rw [meets, if_neg (fun h => h1 ⟨e, l, rfl, h⟩)]
    | cons f r => rw [meets, if_neg (fun h => h1 ⟨e, l, rfl, h⟩), if_neg (fun h => h2 ⟨f, r, rfl, h⟩)]
theorem meets_take0 {cl : Clu} {e : EditP} {l R : List EditP} (h : e.at_ ≤ cl.to_) : meets cl (e :: l) R = meets (Clu.add0 cl e) l R := by
  cases R with
  | nil => rw [meets, if_pos h]
  | cons f r => rw [meets, if_pos h]
theorem meets_take1 {cl : Clu} {f : EditP} {L r : List EditP} (h1 : ¬ canTake cl L) (h : f.at_ ≤ cl.to_) : meets cl L (f :: r) = meets (Clu.add1 cl f) L r := by
  cases L with
  | nil => rw [meets, if_pos h]
  | cons e l => rw [meets, if_neg (fun h => h1 ⟨e, l, rfl, h⟩), if_pos h]
theorem clus_step {n : Nat} {L R : List EditP} (h0 : ¬ (L = [] ∧ R = [])) (hle : L.length + R.length ≤ n) : ∃ m, n = m + 1 ∧ (firstC L R).2.1.length + (firstC L R).2.2.length ≤ m ∧ clus n L R = (firstC L R).1 :: clus m (firstC L R).2.1 (firstC L R).2.2 := by
  have h := firstC_lt L R h0
  cases n with
  | zero => omega
  | succ m => exact ⟨m, rfl, by omega, by rw [clus, if_neg h0]⟩

/-- Whose edits come first. -/
structure Side (w : World) (b k : Nat) (L R : List EditP) (gb off n c : Nat) : Prop where
  lt : k < 2
  cell : w.cell? ⟨b, k, none⟩ = some (.slice (some ⟨gb, off, none⟩) n c)
  at_ : w.cell? ⟨gb, off, none⟩ = some (.int .i64 (startAt L R))
  n1 : 1 ≤ n
  nc : n ≤ c
  cm : c ≤ maxLen

set_option maxRecDepth 100000 in
set_option maxHeartbeats 8000000 in
theorem clus_iter (n b : Nat) (U Fx : Nat → Prop) (L R : List EditP) (vL vR : Value) (w : World) (hblk : w.heap[b]? = some (.cells #[vL, vR] 162 (0, 0))) (hL : ES Fx w L vL) (hR : ES Fx w R vR) (hsL : SmallE L) (hsR : SmallE R)
    (hU : ¬ U b) (hFU : ∀ k, Fx k → ¬ U k) (hFb : ¬ Fx b) (hFs : ∀ k, Fx k → k < w.heap.size) :
    Iter Fence.wide n Tryd.prog 143 #[.pointer (some ⟨b, 0, none⟩)] (fun c : Clu => #[c.val]) (one b) U (clus (L.length + R.length) L R) w := by
  intro l J W hW hJ hY hJ0
  refine callsIn_wide.2 ?_
  have HJ := Lib.hid hJ; have HY := Lib.hid hY; have HU := Lib.hid hU; have HFU := Lib.hid hFU; have HFb := Lib.hid hFb; have HFs := Lib.hid hFs
  have HI : Hid (It w W b Fx J (clus (L.length + R.length) L R) (L.length + R.length) L R vL vR []) := Lib.hid ⟨rfl, Nat.le_refl _, hJ0, hW.blk hblk (no_not _), hL.keep hW (fun _ _ => no_not _), hR.keep hW (fun _ _ => no_not _), hsL, hsR, hW.size⟩
  clear hJ hY hU hFU hFb hFs hblk hL hR hsL hsR hW hJ0
  go_enter Tryd.func143, Tryd.ntmps143
  go_wp2_with fail
  go_loopg [3] (L.length + R.length) (fun k _ wr => ∃ (L' R' : List EditP) (vl vr : Value) (pre : List Clu), Hid (It w wr b Fx J (clus (L.length + R.length) L R) k L' R' vl vr pre))
  case atStart => exact ⟨L, R, vL, vR, [], HI⟩
  case round =>
    clear HI
    obtain ⟨L', R', vl, vr, pre, HI⟩ := hrel
    by_cases h0 : L' = [] ∧ R' = []
    · obtain ⟨rfl, rfl⟩ := h0
      obtain ⟨A, c, rfl⟩ := HI.out.l.nil
      obtain ⟨B, d, rfl⟩ := HI.out.r.nil
      have hc0 := (bCell HI.out.blk 0).trans rfl
      have hc1 := (bCell HI.out.blk 1).trans rfl
      go_wp2_with fail
      go_end0
      refine ⟨⟨_, rfl⟩, ?_⟩
      have h := HI.out.eq
      have he : clus gk [] [] = [] := by cases gk <;> simp [clus]
      rw [he, List.append_nil] at h
      rw [h]
      exact HI.out.j
    · obtain ⟨A, c, hvl, hlc, hcm, hcL⟩ := HI.out.l
      obtain ⟨B, d, hvr, hrd, hdm, hcR⟩ := HI.out.r
      clear hcL hcR
      subst hvl
      subst hvr
      have hc0 := (bCell HI.out.blk 0).trans rfl
      have hc1 := (bCell HI.out.blk 1).trans rfl
      have hll := HI.out.sl.len
      have hrl := HI.out.sr.len
      have hpos : 0 < L'.length + R'.length := by
        cases L' with
        | nil => cases R' with
          | nil => exact absurd ⟨rfl, rfl⟩ h0
          | cons => simp; 
        | cons => simp; omega
      have hpos' : (0 : Int) < (L'.length : Int) + (R'.length : Int) := by omega
      have H0 := Lib.hid h0
      clear h0
      unfold maxLen at hcm hdm
      go_wp2_with fail
      go_step3
      go_upto_region 2 with (fail)
      go_cut [37] (fun v37 wc => ∃ (kb : Bool) (gb off n' c' : Nat), v37 = .bool kb ∧ Hid (Side wc b kb.toNat L' R' gb off n' c') ∧ Hid (It w wc b Fx J (clus (L.length + R.length) L R) gk L' R' (.slice A L'.length c) (.slice B R'.length d) pre))
      case first =>
        cases L' with
        | nil =>
          cases R' with
          | nil => exact absurd ⟨rfl, rfl⟩ H0.out
          | cons f r =>
            obtain ⟨gb, off, n', A2, c2, h1, h2, h3, h4, h5⟩ := HI.out.r.head
            injection h1 with h1 h1a h1b
            subst h1 h1b
            simp only [List.length_nil, List.length_cons] at hc0 hc1 hll hrl hpos hpos' hlc hrd
            have hi1 : (0 : Int) < (r.length : Int) + 1 := by omega
            have HS : ∀ nq, Hid (Side (wr.drewN nq) b 1 [] (f :: r) gb off (r.length + 1) d) := fun nq => Lib.hid ⟨by omega, hc1, h2, by omega, hrd, by unfold maxLen; exact hdm⟩
            clear h3 h4
            go_quiet (fail)
            go_wp2_with fail
            go_meet
            exact ⟨true, gb, off, _, d, rfl, HS _, Lib.hid (HI.out.step ((Ch.refl no _).drewN _) (HJ.out _ _ _ HI.out.j ((Ch.refl (one b) _).drewN _)))⟩
        | cons e l =>
          obtain ⟨gb, off, n', A2, c2, h1, h2, h3, h4, h5⟩ := HI.out.l.head
          injection h1 with h1 h1a h1b
          subst h1 h1b
          cases R' with
          | nil =>
            simp only [List.length_nil, List.length_cons] at hc0 hc1 hll hrl hpos hpos' hlc hrd
            have hi1 : (0 : Int) < (l.length : Int) + 1 := by omega
            have hi2 : (((l.length : Int) + 1) == 0) = false := by rw [beq_eq_false_iff_ne]; omega
            have HS : ∀ nq, Hid (Side (wr.drewN nq) b 0 (e :: l) [] gb off (l.length + 1) c) := fun nq => Lib.hid ⟨by omega, hc0, h2, by omega, hlc, by unfold maxLen; exact hcm⟩
            clear h3 h4
            go_quiet (fail)
            go_wp2_with fail
            go_meet
            exact ⟨false, gb, off, _, c, rfl, HS _, Lib.hid (HI.out.step ((Ch.refl no _).drewN _) (HJ.out _ _ _ HI.out.j ((Ch.refl (one b) _).drewN _)))⟩
          | cons f r =>
            obtain ⟨gb', off', n'', A3, c3, k1, k2, k3, k4, k5⟩ := HI.out.r.head
            injection k1 with k1 k1a k1b
            subst k1 k1b
            simp only [List.length_cons] at hc0 hc1 hll hrl hpos hpos' hlc hrd
            have hi1 : (0 : Int) < (l.length : Int) + 1 := by omega
            have hi2 : (((l.length : Int) + 1) == 0) = false := by rw [beq_eq_false_iff_ne]; omega
            have hi3 : (0 : Int) < (r.length : Int) + 1 := by omega
            by_cases hlt : f.at_ < e.at_
            · have HS : ∀ nq, Hid (Side (wr.drewN nq) b 1 (e :: l) (f :: r) gb' off' (r.length + 1) d) := fun nq => Lib.hid ⟨by omega, hc1, by simp only [startAt, if_pos hlt]; exact k2, by omega, hrd, by unfold maxLen; exact hdm⟩
              clear h3 h4 k3 k4
              go_quiet (fail)
              go_wp2_with fail
              go_meet
              exact ⟨true, gb', off', _, d, rfl, HS _, Lib.hid (HI.out.step ((Ch.refl no _).drewN _) (HJ.out _ _ _ HI.out.j ((Ch.refl (one b) _).drewN _)))⟩
            · have HS : ∀ nq, Hid (Side (wr.drewN nq) b 0 (e :: l) (f :: r) gb off (l.length + 1) c) := fun nq => Lib.hid ⟨by omega, hc0, by simp only [startAt, if_neg hlt]; exact h2, by omega, hlc, by unfold maxLen; exact hcm⟩
              clear h3 h4 k3 k4
              go_quiet (fail)
              go_wp2_with fail
              go_meet
              exact ⟨false, gb, off, _, c, rfl, HS _, Lib.hid (HI.out.step ((Ch.refl no _).drewN _) (HJ.out _ _ _ HI.out.j ((Ch.refl (one b) _).drewN _)))⟩
      case rest =>
        clear HI hc0 hc1
        obtain ⟨kb, gb, off, n', c', rfl, HS, HI⟩ := hcut
        go_upto_if 37 with (fail)
        go_cut [3] (fun v3 wd => ∃ (kk : Nat), v3 = .int .i64 (kk : Nat) ∧ Hid (Side wd b kk L' R' gb off n' c') ∧ Hid (It w wd b Fx J (clus (L.length + R.length) L R) gk L' R' (.slice A L'.length c) (.slice B R'.length d) pre))
        case first =>
          cases kb
          · go_wp2_with fail
            go_meet
            exact ⟨0, rfl, HS, HI⟩
          · go_wp2_with fail
            go_meet
            exact ⟨1, rfl, HS, HI⟩
        case rest =>
        clear HS HI
        obtain ⟨kk, rfl, HS, HI⟩ := hcut
        have hn1 : (0 : Int) < (n' : Int) := by have := HS.out.n1; omega
        have hn2 := HS.out.nc
        have hn3 := HS.out.cm
        unfold maxLen at hn3
        have hcell := HS.out.cell
        have hcat := HS.out.at_
        have hk2 := HS.out.lt
        have hk0 : (0 : Int) ≤ (kk : Int) := by omega
        have hk1 : (kk : Int) < 2 := by omega
        go_wp2_with fail
-- <clus4
        refine wp_region_tail (G := gds [Gd.is ?r4v0, Gd.is ?r4v1, Gd.is ?r4v2, Gd.is ?r4v3, Gd.is ?r4v4, Gd.is ?r4v5, Gd.is ?r4v6, Gd.is ?r4v7, Gd.is ?r4v8, Gd.is ?r4v9, Gd.is ?r4v10, Gd.is ?r4v11, Gd.is ?r4v12, ⟨fun v X => ∃ g, v = .pointer (some ⟨g, 0, none⟩) ∧ wc.heap.size ≤ g ∧ X.heap[g]? = some (.cells #[.int .i64 0, .int .i64 0, .int .i64 0, .int .i64 0, .bool false, .bool false] 165 (0, 0)), fun v A B h hc => by obtain ⟨g, h1, h2, h3⟩ := h; exact ⟨g, h1, h2, hc.blk h3 (no_not _)⟩⟩]) 14 (by kernel_rfl) (by kernel_rfl) rfl (by kernel_rfl) gds_st ?obl4 ?fin4
        case obl4 =>
          simp only [Obls, and_true, List.take_succ_cons, List.take_zero]
          refine ⟨?_, ?_, ?_, ?_, ?_, ?_, ?_, ?_, ?_, ?_, ?_, ?_, ?_, ?_⟩
          · intro vs W hW hd
            simp only [fill, List.setIfInBounds_toArray, List.set_cons_zero, List.set_cons_succ]
            clear hd
            go_wp2_with (fail)
            refine ⟨rfl, rfl, Ch.refl _ _, gds_is rfl ?_⟩
            (conv => lhs; whnf)
          · intro vs W hW hd
            simp only [fill, List.setIfInBounds_toArray, List.set_cons_zero, List.set_cons_succ]
            have d0 := gds_at rfl (hd ⟨0, .data⟩ (by simp) rfl)
            rw [d0]
            clear hd d0
            go_wp2_with (fail)
            refine ⟨rfl, rfl, Ch.refl _ _, gds_is rfl ?_⟩
            (conv => lhs; whnf)
          · intro vs W hW hd
            simp only [fill, List.setIfInBounds_toArray, List.set_cons_zero, List.set_cons_succ]
            have d1 := gds_at rfl (hd ⟨1, .data⟩ (by simp) rfl)
            rw [d1]
            clear hd d1
            have hcb := cell_ch hW hcell
            have hcx := cell_ch hW hcat
            go_wp2_with (fail)
            refine ⟨rfl, rfl, Ch.refl _ _, gds_is rfl ?_⟩
            (conv => lhs; whnf)
          · intro vs W hW hd
            simp only [fill, List.setIfInBounds_toArray, List.set_cons_zero, List.set_cons_succ]
            have d2 := gds_at rfl (hd ⟨2, .data⟩ (by simp) rfl)
            rw [d2]
            clear hd d2
            go_wp2_with (fail)
            refine ⟨rfl, rfl, Ch.refl _ _, gds_is rfl ?_⟩
            (conv => lhs; whnf)
          · intro vs W hW hd
            simp only [fill, List.setIfInBounds_toArray, List.set_cons_zero, List.set_cons_succ]
            have d3 := gds_at rfl (hd ⟨3, .data⟩ (by simp) rfl)
            rw [d3]
            clear hd d3
            have hcb := cell_ch hW hcell
            go_wp2_with (fail)
            refine ⟨rfl, rfl, Ch.refl _ _, gds_is rfl ?_⟩
            (conv => lhs; whnf)
          · intro vs W hW hd
            simp only [fill, List.setIfInBounds_toArray, List.set_cons_zero, List.set_cons_succ]
            have d4 := gds_at rfl (hd ⟨4, .data⟩ (by simp) rfl)
            rw [d4]
            clear hd d4
            have hcb := cell_ch hW hcell
            have hcx := cell_ch hW hcat
            go_wp2_with (fail)
            refine ⟨rfl, rfl, Ch.refl _ _, gds_is rfl ?_⟩
            (conv => lhs; whnf)
          · intro vs W hW hd
            simp only [fill, List.setIfInBounds_toArray, List.set_cons_zero, List.set_cons_succ]
            clear hd
            go_wp2_with (fail)
            refine ⟨rfl, rfl, Ch.refl _ _, gds_is rfl ?_⟩
            (conv => lhs; whnf)
          · intro vs W hW hd
            simp only [fill, List.setIfInBounds_toArray, List.set_cons_zero, List.set_cons_succ]
            have d6 := gds_at rfl (hd ⟨6, .data⟩ (by simp) rfl)
            rw [d6]
            clear hd d6
            go_wp2_with (fail)
            refine ⟨rfl, rfl, Ch.refl _ _, gds_is rfl ?_⟩
            (conv => lhs; whnf)
          · intro vs W hW hd
            simp only [fill, List.setIfInBounds_toArray, List.set_cons_zero, List.set_cons_succ]
            have d7 := gds_at rfl (hd ⟨7, .data⟩ (by simp) rfl)
            rw [d7]
            clear hd d7
            have hcb := cell_ch hW hcell
            have hcx := cell_ch hW hcat
            go_wp2_with (fail)
            refine ⟨rfl, rfl, Ch.refl _ _, gds_is rfl ?_⟩
            (conv => lhs; whnf)
          · intro vs W hW hd
            simp only [fill, List.setIfInBounds_toArray, List.set_cons_zero, List.set_cons_succ]
            have d8 := gds_at rfl (hd ⟨8, .data⟩ (by simp) rfl)
            rw [d8]
            clear hd d8
            go_wp2_with (fail)
            refine ⟨rfl, rfl, Ch.refl _ _, gds_is rfl ?_⟩
            (conv => lhs; whnf)
          · intro vs W hW hd
            simp only [fill, List.setIfInBounds_toArray, List.set_cons_zero, List.set_cons_succ]
            have d9 := gds_at rfl (hd ⟨9, .data⟩ (by simp) rfl)
            rw [d9]
            clear hd d9
            go_wp2_with (fail)
            refine ⟨rfl, rfl, Ch.refl _ _, gds_is rfl ?_⟩
            (conv => lhs; whnf)
          · intro vs W hW hd
            simp only [fill, List.setIfInBounds_toArray, List.set_cons_zero, List.set_cons_succ]
            have d10 := gds_at rfl (hd ⟨10, .data⟩ (by simp) rfl)
            rw [d10]
            clear hd d10
            have hcb := cell_ch hW hcell
            have hcx := cell_ch hW hcat
            go_wp2_with (fail)
            refine ⟨rfl, rfl, Ch.refl _ _, gds_is rfl ?_⟩
            (conv => lhs; whnf)
          · intro vs W hW hd
            simp only [fill, List.setIfInBounds_toArray, List.set_cons_zero, List.set_cons_succ]
            have d5 := gds_at rfl (hd ⟨5, .data⟩ (by simp) rfl)
            have d11 := gds_at rfl (hd ⟨11, .data⟩ (by simp) rfl)
            rw [d5, d11]
            clear hd d5 d11
            go_wp2_with (fail)
            refine ⟨rfl, rfl, Ch.refl _ _, gds_is rfl ?_⟩
            (conv => lhs; whnf)
          · intro vs W hW hd
            simp only [fill, List.setIfInBounds_toArray, List.set_cons_zero, List.set_cons_succ]
            clear hd
            go_wp2_with (fail)
            refine ⟨rfl, rfl, (Ch.refl _ _).alloc _, gds_mk rfl ⟨W.heap.size, ?_, hW.size, al1 _ _⟩⟩
            (conv => lhs; whnf)
        case fin4 =>
          intro vs W hW hd
          simp only [fill, List.setIfInBounds_toArray, List.set_cons_zero, List.set_cons_succ, List.take_succ_cons, List.take_zero, List.drop_succ_cons, List.drop_zero]
          have d0 := gds_at rfl (hd 0 (by omega))
          have d1 := gds_at rfl (hd 1 (by omega))
          have d2 := gds_at rfl (hd 2 (by omega))
          have d3 := gds_at rfl (hd 3 (by omega))
          have d4 := gds_at rfl (hd 4 (by omega))
          have d5 := gds_at rfl (hd 5 (by omega))
          have d6 := gds_at rfl (hd 6 (by omega))
          have d7 := gds_at rfl (hd 7 (by omega))
          have d8 := gds_at rfl (hd 8 (by omega))
          have d9 := gds_at rfl (hd 9 (by omega))
          have d10 := gds_at rfl (hd 10 (by omega))
          have d11 := gds_at rfl (hd 11 (by omega))
          have d12 := gds_at rfl (hd 12 (by omega))
          have d13 := gds_get rfl (hd 13 (by omega))
          rw [d0, d1, d2, d3, d4, d5, d6, d7, d8, d9, d10, d11, d12]
          clear hd d0 d1 d2 d3 d4 d5 d6 d7 d8 d9 d10 d11 d12
-- clus4>
          obtain ⟨g, e13, hg1, hg2⟩ := d13
          rw [e13]
          clear e13
          have hgc := fun i => bCell hg2 i
          have hgf := fun i => bFree hg2 i
          have hx := bSet (bSet (bSet (bSet (bSet (bSet hg2 0 (.int .i64 (startAt L' R'))) 1 (.int .i64 (startAt L' R'))) 2 (.int .i64 0)) 3 (.int .i64 0)) 4 (.bool false)) 5 (.bool false)
          simp only [List.setIfInBounds_toArray, List.set_cons_zero, List.set_cons_succ] at hx
          have hs1 : ∀ (X : World), Ch (one g) W X → ∀ j v, Ch (one g) W (X.setCell ⟨g, j, none⟩ v) := fun X hX j v => ch_one hX rfl j v
          have hy := hs1 _ (hs1 _ (hs1 _ (hs1 _ (hs1 _ (hs1 _ (Ch.refl (one g) W) 0 (.int .i64 (startAt L' R'))) 1 (.int .i64 (startAt L' R'))) 2 (.int .i64 0)) 3 (.int .i64 0)) 4 (.bool false)) 5 (.bool false)
          have hbl := blk_lt' HI.out.blk
          have hgb : g ≠ b := by omega
          have hFg : ¬ Fx g := fun h => by have := HFs.out g h; have := HI.out.sz; omega
          have HX := Lib.hid hx; have HY2 := Lib.hid hy
          have HW := Lib.hid hW; have HGB := Lib.hid hgb; have HFg := Lib.hid hFg; have HG1 := Lib.hid hg1
          clear hx hy hs1 hbl hgb hFg hW hg1
          go_wp2_with fail
          clear hgc hgf
          have H2 : Hid (In2 wc _ b g Fx (firstC L' R') ⟨startAt L' R', startAt L' R', 0, 0, false, false⟩ L' R' (.slice A L'.length c) (.slice B R'.length d)) := Lib.hid
            ⟨rfl, HY2.out.blk (HW.out.blk HI.out.blk (no_not _)) (fun h => HGB.out h.symm), HX.out, (HI.out.l.keep ((Ch.refl no _).drew.same HW.out) (fun _ _ => no_not _)).keep HY2.out (fun k hk h => HFg.out (by rw [← (h : k = g)]; exact hk)), (HI.out.r.keep ((Ch.refl no _).drew.same HW.out) (fun _ _ => no_not _)).keep HY2.out (fun k hk h => HFg.out (by rw [← (h : k = g)]; exact hk)),
              Bnd.start HI.out.sl HI.out.sr _, (((Ch.refl _ _).drew.same (HW.out.mono (fun _ h => h.elim))).same (HY2.out.mono (fun k h => .inr h))), HG1.out, HGB.out, HFb.out, HFg.out⟩
          refine wp_world (fun X => Hid (In2 wc X b g Fx (firstC L' R') ⟨startAt L' R', startAt L' R', 0, 0, false, false⟩ L' R' (.slice A L'.length c) (.slice B R'.length d))) H2 ?_
          clear H2 HX HY2 HW hg2
          intro X H2
          go_step3
          go_wp2_with fail
          go_loopg [5] (L'.length + R'.length) (fun k _ wr => ∃ (cl : Clu) (L2 R2 : List EditP) (v2 v3 : Value), L2.length + R2.length = k ∧ Hid (In2 wc wr b g Fx (firstC L' R') cl L2 R2 v2 v3))
          case atStart => exact ⟨_, L', R', _, _, rfl, H2⟩
          case round =>
            clear H2
            obtain ⟨cl, L2, R2, v2, v3, rfl, H2⟩ := hrel
            obtain ⟨A2, c2, hv2, hlc2, hcm2, hcL⟩ := H2.out.l
            obtain ⟨B2, d2, hv3, hrd2, hdm2, hcR⟩ := H2.out.r
            clear hcL hcR
            subst hv2 hv3
            unfold maxLen at hcm2 hdm2
            have hq0 := (bCell H2.out.blk 0).trans rfl
            have hq1 := (bCell H2.out.blk 1).trans rfl
            have hi0 : ∀ w, (Instr.index 162 (.agg #[.slice A2 L2.length c2, .slice B2 R2.length d2]) (.int .i64 0)).run Tryd.prog w = .ok (.slice A2 L2.length c2) w := fun _ => by kernel_rfl
            have hi1 : ∀ w, (Instr.index 162 (.agg #[.slice A2 L2.length c2, .slice B2 R2.length d2]) (.int .i64 1)).run Tryd.prog w = .ok (.slice B2 R2.length d2) w := fun _ => by kernel_rfl
            go_wp2_with fail
            clear hq0 hq1
            go_loopw [52] (fun v52 wz => ∃ i : Nat, i ≤ 2 ∧ v52 = .int .i64 (i : Nat) ∧ Hid ((1 ≤ i → ¬ canTake cl L2) ∧ (2 ≤ i → ¬ canTake cl R2)) ∧ Hid (In2 wc wz b g Fx (firstC L' R') cl L2 R2 (.slice A2 L2.length c2) (.slice B2 R2.length d2))) (fun v52 _ => 2 - (intOf v52).toNat)
            case atStart => exact ⟨0, by omega, rfl, Lib.hid ⟨fun h => absurd h (by omega), fun h => absurd h (by omega)⟩, H2⟩
            case round =>
              clear H2
              obtain ⟨i, hi, rfl, HC, H2⟩ := hrel
              have hi3 : i = 0 ∨ i = 1 ∨ i = 2 := by omega
              clear hi
              rcases hi3 with rfl | rfl | rfl
              · rw [show ((0 : Nat) : Int) = 0 from rfl]
                by_cases hct : canTake cl L2
                · obtain ⟨e, l, rfl, hct⟩ := hct
                  obtain ⟨gb2, off2, c3, A3, c4, h1, h2, h3, h4, h5⟩ := H2.out.l.head
                  obtain ⟨v', hrun, hes⟩ := H2.out.l.tail
                  injection h1 with h1 h1a h1b
                  subst h1 h1b
                  obtain ⟨b1, b2, b3⟩ := H2.out.bnd.sl.head
                  have b4 := H2.out.bnd.m0
                  have b5 := H2.out.bnd.m1
                  simp only [List.length_cons] at hlc2 hi0 hi1 hrun
                  have hj1 : (0 : Int) < (l.length : Int) + 1 := by omega
                  have hj2 : (e.at_ : Int) ≤ (cl.to_ : Int) := by omega
                  have hq := (bCell H2.out.cblk 1).trans rfl
                  have HES := Lib.hid hes
                  obtain ⟨A9, c9, rfl, hes1, hes2, hes3⟩ := hes
                  clear hes1 hes2 hes3
                  go_wp2_with fail
                  go_quiet (fail)
                  go_wp2_with fail
                  clear hq h2 h3 h4
                  refine (take0_of cl g e.at_ e.del e.ins.length c4 A3 _ (((Ch.refl no wr).drewN _).blk H2.out.cblk (no_not _)) (by omega) (by omega) (by omega) (by omega) (by omega)).mono ?_
                  rintro ee w5 ⟨rfl, hcb, hch⟩
                  have hch2 := (((Ch.refl (one g) wr).drewN nq).same hch)
                  have hbk := hch2.blk H2.out.blk (fun h => H2.out.ne h.symm)
                  have hk0 := (bCell hbk 0).trans rfl
                  have hk1 := bFree hbk 0
                  have HCB := Lib.hid hcb; have HCH := Lib.hid hch2; have HBK := Lib.hid hbk
                  clear hcb hch hch2 hbk
                  go_wp2_with fail
                  go_roundg (l.length + R2.length)
                  case rel =>
                    have hbk := bSet HBK.out 0 (.slice A9 l.length c9)
                    simp only [List.setIfInBounds_toArray, List.set_cons_zero, List.set_cons_succ] at hbk
                    have hs1 := Ch.set1 w5 b 0 (.slice A9 l.length c9)
                    exact ⟨Clu.add0 cl e, l, R2, _, _, rfl, Lib.hid ⟨by rw [← meets_take0 hct]; exact H2.out.tgt, hbk, hs1.blk HCB.out (fun h => H2.out.ne h), (HES.out.keep HCH.out (fun k hk h => H2.out.fg (by rw [← (h : k = g)]; exact hk))).keep hs1 (fun k hk h => H2.out.fb (by rw [← (h : k = b)]; exact hk)),
                      (H2.out.r.keep HCH.out (fun k hk h => H2.out.fg (by rw [← (h : k = g)]; exact hk))).keep hs1 (fun k hk h => H2.out.fb (by rw [← (h : k = b)]; exact hk)), H2.out.bnd.take0, (H2.out.ch.same (HCH.out.mono (fun k h => .inr h))).same (hs1.mono (fun k h => .inl h)), H2.out.gs, H2.out.ne, H2.out.fb, H2.out.fg⟩⟩
                  case measure => simp
                · have HCT := Lib.hid hct
                  cases L2 with
                  | nil =>
                    simp only [List.length_nil] at hlc2 hi0 hi1
                    clear hct
                    go_wp2_with fail
                    go_quiet (fail)
                    go_wp2_with fail
                    go_roundw
                    case rel =>
                      exact ⟨1, by omega, rfl, Lib.hid ⟨fun _ => HCT.out, fun h => absurd h (by omega)⟩, Lib.hid (H2.out.step ((Ch.refl no _).drewN _))⟩
                    case measure => simp [intOf]
                  | cons e l =>
                    obtain ⟨gb2, off2, c3, A3, c4, h1, h2, h3, h4, h5⟩ := H2.out.l.head
                    injection h1 with h1 h1a h1b
                    subst h1 h1b
                    have hj : ¬ e.at_ ≤ cl.to_ := fun h => hct ⟨e, l, rfl, h⟩
                    simp only [List.length_cons] at hlc2 hi0 hi1
                    have hj1 : (0 : Int) < (l.length : Int) + 1 := by omega
                    have hj2 : ¬ (e.at_ : Int) ≤ (cl.to_ : Int) := by omega
                    have hq := (bCell H2.out.cblk 1).trans rfl
                    clear hct
                    go_wp2_with fail
                    go_quiet (fail)
                    go_wp2_with fail
                    go_roundw
                    case rel =>
                      (repeat apply Exists.intro)
                      exact ⟨⟨1, by omega, rfl, Lib.hid ⟨fun _ => HCT.out, fun h => absurd h (by omega)⟩, Lib.hid (H2.out.step ((Ch.refl no _).drewN _))⟩, rfl⟩
                    case measure => simp [intOf]
              · rw [show ((1 : Nat) : Int) = 1 from rfl]
                by_cases hct : canTake cl R2
                · obtain ⟨e, l, rfl, hct⟩ := hct
                  obtain ⟨gb2, off2, c3, A3, c4, h1, h2, h3, h4, h5⟩ := H2.out.r.head
                  obtain ⟨v', hrun, hes⟩ := H2.out.r.tail
                  injection h1 with h1 h1a h1b
                  subst h1 h1b
                  obtain ⟨b1, b2, b3⟩ := H2.out.bnd.sr.head
                  have b4 := H2.out.bnd.m0
                  have b5 := H2.out.bnd.m1
                  simp only [List.length_cons] at hrd2 hi0 hi1 hrun
                  have hj1 : (0 : Int) < (l.length : Int) + 1 := by omega
                  have hj2 : (e.at_ : Int) ≤ (cl.to_ : Int) := by omega
                  have hq := (bCell H2.out.cblk 1).trans rfl
                  have HES := Lib.hid hes
                  obtain ⟨A9, c9, rfl, hes1, hes2, hes3⟩ := hes
                  clear hes1 hes2 hes3
                  go_wp2_with fail
                  go_quiet (fail)
                  go_wp2_with fail
                  clear hq h2 h3 h4
                  refine (take1_of cl g e.at_ e.del e.ins.length c4 A3 _ (((Ch.refl no wr).drewN _).blk H2.out.cblk (no_not _)) (by omega) (by omega) (by omega) (by omega) (by omega)).mono ?_
                  rintro ee w5 ⟨rfl, hcb, hch⟩
                  have hch2 := (((Ch.refl (one g) wr).drewN nq).same hch)
                  have hbk := hch2.blk H2.out.blk (fun h => H2.out.ne h.symm)
                  have hk0 := (bCell hbk 1).trans rfl
                  have hk1 := bFree hbk 1
                  have HCB := Lib.hid hcb; have HCH := Lib.hid hch2; have HBK := Lib.hid hbk
                  clear hcb hch hch2 hbk
                  go_wp2_with fail
                  go_roundg (L2.length + l.length)
                  case rel =>
                    have hbk := bSet HBK.out 1 (.slice A9 l.length c9)
                    simp only [List.setIfInBounds_toArray, List.set_cons_zero, List.set_cons_succ] at hbk
                    have hs1 := Ch.set1 w5 b 1 (.slice A9 l.length c9)
                    exact ⟨Clu.add1 cl e, L2, l, _, _, rfl, Lib.hid ⟨by rw [← meets_take1 (HC.out.1 (Nat.le_refl _)) hct]; exact H2.out.tgt, hbk, hs1.blk HCB.out (fun h => H2.out.ne h), (H2.out.l.keep HCH.out (fun k hk h => H2.out.fg (by rw [← (h : k = g)]; exact hk))).keep hs1 (fun k hk h => H2.out.fb (by rw [← (h : k = b)]; exact hk)),
                      (HES.out.keep HCH.out (fun k hk h => H2.out.fg (by rw [← (h : k = g)]; exact hk))).keep hs1 (fun k hk h => H2.out.fb (by rw [← (h : k = b)]; exact hk)), H2.out.bnd.take1, (H2.out.ch.same (HCH.out.mono (fun k h => .inr h))).same (hs1.mono (fun k h => .inl h)), H2.out.gs, H2.out.ne, H2.out.fb, H2.out.fg⟩⟩
                  case measure => simp
                · have HCT := Lib.hid hct
                  cases R2 with
                  | nil =>
                    simp only [List.length_nil] at hrd2 hi0 hi1
                    clear hct
                    go_wp2_with fail
                    go_quiet (fail)
                    go_wp2_with fail
                    go_roundw
                    case rel =>
                      exact ⟨2, by omega, rfl, Lib.hid ⟨fun _ => HC.out.1 (Nat.le_refl _), fun _ => HCT.out⟩, Lib.hid (H2.out.step ((Ch.refl no _).drewN _))⟩
                    case measure => simp [intOf]
                  | cons e l =>
                    obtain ⟨gb2, off2, c3, A3, c4, h1, h2, h3, h4, h5⟩ := H2.out.r.head
                    injection h1 with h1 h1a h1b
                    subst h1 h1b
                    have hj : ¬ e.at_ ≤ cl.to_ := fun h => hct ⟨e, l, rfl, h⟩
                    simp only [List.length_cons] at hrd2 hi0 hi1
                    have hj1 : (0 : Int) < (l.length : Int) + 1 := by omega
                    have hj2 : ¬ (e.at_ : Int) ≤ (cl.to_ : Int) := by omega
                    have hq := (bCell H2.out.cblk 1).trans rfl
                    clear hct
                    go_wp2_with fail
                    go_quiet (fail)
                    go_wp2_with fail
                    go_roundw
                    case rel =>
                      (repeat apply Exists.intro)
                      exact ⟨⟨2, by omega, rfl, Lib.hid ⟨fun _ => HC.out.1 (Nat.le_refl _), fun _ => HCT.out⟩, Lib.hid (H2.out.step ((Ch.refl no _).drewN _))⟩, rfl⟩
                    case measure => simp [intOf]
              · have hdone := meets_done (HC.out.1 (by omega)) (HC.out.2 (Nat.le_refl _))
                rw [H2.out.tgt] at hdone
                obtain ⟨m, hm, hml, hcl⟩ := clus_step H0.out HI.out.le
                rw [hdone] at hml hcl
                have hxs := HI.out.eq
                rw [hcl] at hxs
                have hj : J pre wr := HJ.out _ _ _ HI.out.j ⟨H2.out.ch.os, H2.out.ch.tape, H2.out.ch.output, H2.out.ch.size, fun k hk hn => H2.out.ch.block k hk (fun h => h.elim (fun h => hn h) (fun h => by have := H2.out.gs; omega))⟩
                obtain ⟨fn, tmps, assign, body, hy, hR⟩ := HY.out pre cl wr hj ⟨_, hxs⟩
                have HXS := Lib.hid hxs
                have HML := Lib.hid hml
                clear hdone hcl hxs hj hml
                simp only [Clu.val, Clu.cells] at hy
                have hg0 := fun i => bCell H2.out.cblk i
                subst hm
                go_upto_region 12 with (fail)
                refine (wpIn_wide (n := n)).1 ?_
                gi_wp2_with fail
                clear hg0
                refine ⟨fun h => (by simp [Fence.wide] at h), hR.mono ?_⟩
                rintro e W3 ⟨rfl, hJ3, hU3⟩
                have HJ3 := Lib.hid hJ3; have HU3 := Lib.hid hU3
                clear hJ3 hU3 hR
                gi_wp2_with fail
                go_wp2_with fail
                rw [Exit.noGoto_normal]
                go_wp2_with fail
                go_roundg m
                case rel => exact ⟨L2, R2, _, _, pre ++ [cl], Lib.hid ⟨by rw [HXS.out]; simp, HML.out, HJ3.out, HU3.out.blk H2.out.blk HU.out, H2.out.l.keep HU3.out HFU.out, H2.out.r.keep HU3.out HFU.out, H2.out.bnd.sl, H2.out.bnd.sr, Nat.le_trans HI.out.sz (Nat.le_trans H2.out.ch.size HU3.out.size)⟩⟩
                case measure => omega

end Go.Proofs.YtekeiieefkgopaaDoor.Nd
