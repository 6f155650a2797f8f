/- The chapter's example (blend). -/
import Derived.Test.YtekeiieefkgopaaBp
namespace Go.Proofs.Ytekeiieefkgopaa.Bq
open Go.RowKit Go.Proofs.Ytekeiieefkgopaa.Aa Go.Proofs.Ytekeiieefkgopaa.Vw Go.Proofs.Ytekeiieefkgopaa.Ma Go.Proofs.Ytekeiieefkgopaa.Mb Go.Proofs.Ytekeiieefkgopaa.Mr Go.Proofs.Ytekeiieefkgopaa.Mt Go.Proofs.Ytekeiieefkgopaa.Na Go.Proofs.Ytekeiieefkgopaa.No Go.Proofs.Ytekeiieefkgopaa.Nq Go.Proofs.Ytekeiieefkgopaa.Ba Go.Proofs.Ytekeiieefkgopaa.Bb Go.Proofs.Ytekeiieefkgopaa.Bk Go.Proofs.Ytekeiieefkgopaa.Bm Go.Proofs.Ytekeiieefkgopaa.Bn Go.Proofs.Ytekeiieefkgopaa.Bo Go.Proofs.Ytekeiieefkgopaa.Bp
set_option linter.unusedVariables false
set_option linter.unusedSimpArgs false

theorem str_block {W : World} {g : Nat} (xs : List ByteArray) (h : W.heap[g]? = some (.cells (xs.map Value.string).toArray 9 (0, 0))) (hl : xs.length ≤ 1000) : El.str.Row W (some ⟨g, 0, none⟩) xs.length xs := by
  have ho : OwnS W g (.slice (some ⟨g, 0, none⟩) xs.length xs.length) xs := ⟨by simp, .inr ⟨g, xs.length, _, rfl, Nat.le_refl _, h, Nat.le_refl _, by unfold maxLen; omega, by simp, by simp [List.take_of_length_le]⟩⟩
  obtain ⟨A, cap, e, hr⟩ := El.Row.of_own ho
  injection e with e1 e2 e3
  subst e1; subst e3
  exact hr
theorem aw1 (Aa Ab : Option Addr) (w : World) (ha : file.Row w Aa 1 [fx1]) (hb : file.Row w Ab 1 [fy2]) : Calls Try.prog 9 #[.slice none 0 0, .slice Aa 1 1, .slice Ab 1 1] w fun e w' => ∃ A c Ad cd, e = .returned (.tuple #[.slice A 2 c, .slice Ad 0 cd]) ∧ file.Row w' A c [fx1, fy2] ∧ El.str.Row w' Ad cd [] ∧ Ch no w w' := by
  have h := trees_any [] [fx1] [fy2] none Aa Ab 0 1 1 w (El.Row.nil _ _) ha hb (by unfold Rise; simp) (rise1 _) (rise1 _) (by simp) (by simp) (by simp) (by intro f hf; simp at hf) (szs1 _ (by decide) (by decide)) (szs1 _ (by decide) (by decide))
  unfold TreesP at h
  rw [ex1] at h
  exact h
theorem aw2 (Ao Aa Ab : Option Addr) (w : World) (ho : file.Row w Ao 1 [fx0]) (ha : file.Row w Aa 1 [fx1]) (hb : file.Row w Ab 1 [fy2]) : Calls Try.prog 9 #[.slice Ao 1 1, .slice Aa 1 1, .slice Ab 1 1] w fun e w' => ∃ A c Ad cd, e = .returned (.tuple #[.slice A 2 c, .slice Ad 1 cd]) ∧ file.Row w' A c [fx1, fy2] ∧ El.str.Row w' Ad cd [⟨#[120]⟩] ∧ Ch no w w' := by
  have h := trees_any [fx0] [fx1] [fy2] Ao Aa Ab 1 1 1 w ho ha hb (rise1 _) (rise1 _) (rise1 _) (by simp) (by simp) (by simp) (szs1 _ (by decide) (by decide)) (szs1 _ (by decide) (by decide)) (szs1 _ (by decide) (by decide))
  unfold TreesP at h
  rw [ex2] at h
  exact h

set_option maxRecDepth 100000 in
set_option maxHeartbeats 8000000 in
theorem awake_of (w : World) : Calls Try.prog 7 #[] w fun e w' => e = .returned (.bool true) ∧ Ch no w w' := by
  obtain ⟨g, hg⟩ : ∃ g, w.heap.size = g := ⟨_, rfl⟩
  have hal := al2 w (.cells #[.string ⟨#[120]⟩, .string ⟨#[49]⟩] 34) (.cells #[.string ⟨#[121]⟩, .string ⟨#[50]⟩] 34)
  have hc2 : Ch no w ((w.alloc (.cells #[.string ⟨#[120]⟩, .string ⟨#[49]⟩] 34)).alloc (.cells #[.string ⟨#[121]⟩, .string ⟨#[50]⟩] 34)) := ((Ch.refl no w).alloc _).alloc _
  obtain ⟨W2, hW2⟩ : ∃ W2, (w.alloc (.cells #[.string ⟨#[120]⟩, .string ⟨#[49]⟩] 34)).alloc (.cells #[.string ⟨#[121]⟩, .string ⟨#[50]⟩] 34) = W2 := ⟨_, rfl⟩
  rw [hW2, hg] at hal
  rw [hW2] at hc2
  have HA := Lib.hid (row_block [fx1] hal.1 (by decide)); have HB := Lib.hid (row_block [fy2] hal.2 (by decide))
  have HC2 := Lib.hid hc2; have HG := Lib.hid hg; have HAL := Lib.hid hal
  clear hg hal hc2
  go_enter Try.func7, Try.ntmps7
  go_upto_region 3 with (fail)
  rw [HG.out]
  clear hW2
  go_wp2_with fail
  refine (aw1 _ _ W2 HA.out HB.out).mono ?_
  rintro e W3 ⟨A3, c3, Ad, cd, rfl, hr3, hd3, hc3⟩
  have HR3 := Lib.hid hr3; have HC3 := Lib.hid hc3
  clear hr3 hd3 hc3
  have HA3 := Lib.hid (HA.out.ch HC3.out); have HB3 := Lib.hid (HB.out.ch HC3.out)
  have HN := Lib.hid (row_block [fx0] (bNew W3 (.cells (fcells [fx0]).toArray 34)) (by decide))
  go_wp2_with fail
  refine (aw2 _ _ _ _ HN.out (HA3.out.ch ((Ch.refl no _).alloc _)) (HB3.out.ch ((Ch.refl no _).alloc _))).mono ?_
  rintro e W5 ⟨A5, c5, A6, c6, rfl, hr5, hr6, hc5⟩
  have HR5 := Lib.hid hr5; have HR6 := Lib.hid hr6; have HC5 := Lib.hid (((Ch.refl no W3).alloc _).same hc5)
  have HC0 : Hid (Ch no w W5) := Lib.hid ((HC2.out.same HC3.out).same HC5.out)
  clear hr5 hr6 hc5
  have a0 := (bCell ((HC3.out.same HC5.out).blk HAL.out.1 (no_not _)) 0).trans rfl
  have a1 := (bCell ((HC3.out.same HC5.out).blk HAL.out.1 (no_not _)) 1).trans rfl
  have b0 := (bCell ((HC3.out.same HC5.out).blk HAL.out.2 (no_not _)) 0).trans rfl
  have b1 := (bCell ((HC3.out.same HC5.out).blk HAL.out.2 (no_not _)) 1).trans rfl
  go_wp2_with fail
  refine wp_region_tail (G := gds [Gd.is ?r5v0, Gd.is ?r5v1, Gd.is (.bool true), Gd.is (.bool true), Gd.is ?r5v4, Gd.is ?r5v5, Gd.is ?r5v6, Gd.is ?r5v7, Gd.is ?r5v8, Gd.is ?r5v9, Gd.is ?r5v10, ⟨fun v X => ∃ b, v = .slice (some ⟨b, 0, none⟩) 2 2 ∧ X.heap[b]? = some (.cells (fcells [fx1, fy2]).toArray 34 (0, 0)), fun v X Y ⟨b, h1, h2⟩ hc => ⟨b, h1, hc.blk h2 (no_not _)⟩⟩, Gd.is (.bool true), Gd.is (.bool true), Gd.is (.bool true), Gd.is ?r5v15, Gd.is ?r5v16, Gd.is (.bool true), Gd.is (.bool true), Gd.is (.bool true), Gd.is ?r5v20, ⟨fun v X => ∃ b, v = .slice (some ⟨b, 0, none⟩) 1 1 ∧ X.heap[b]? = some (.cells #[.string ⟨#[120]⟩] 9 (0, 0)), fun v X Y ⟨b, h1, h2⟩ hc => ⟨b, h1, hc.blk h2 (no_not _)⟩⟩, Gd.is (.bool true), Gd.is (.bool true)]) 24 (by kernel_rfl) (by kernel_rfl) rfl (by kernel_rfl) gds_st ?obl5 ?fin5
  case obl5 =>
    simp only [Obls, and_true, List.take_succ_cons, List.take_zero]
    refine ⟨?_, ?_, ?_, ?_, ?_, ?_, ?_, ?_, ?_, ?_, ?_, ?_, ?_, ?_, ?_, ?_, ?_, ?_, ?_, ?_, ?_, ?_, ?_, ?_⟩
    · intro vs W hW hd
      simp only [fill, List.setIfInBounds_toArray, List.set_cons_zero, List.set_cons_succ]
      clear hd
      go_wp2_with (fail)
      refine ⟨rfl, rfl, Ch.refl _ _, gds_is rfl ?_⟩
      (conv => lhs; whnf)
    · intro vs W hW hd
      simp only [fill, List.setIfInBounds_toArray, List.set_cons_zero, List.set_cons_succ]
      have d0 := gds_at rfl (hd ⟨0, .data⟩ (by simp) rfl)
      rw [d0]
      clear hd d0
      have hWW := (Ch.refl no W5).drew.same hW
      have q0 := cell_ch hWW a0
      have q1 := cell_ch hWW a1
      have q2 := cell_ch hWW b0
      have q3 := cell_ch hWW b1
      go_wp2_with (fail)
      refine ⟨rfl, rfl, Ch.refl _ _, gds_is rfl ?_⟩
      (conv => lhs; whnf)
    · intro vs W hW hd
      simp only [fill, List.setIfInBounds_toArray, List.set_cons_zero, List.set_cons_succ]
      have d1 := gds_at rfl (hd ⟨1, .data⟩ (by simp) rfl)
      rw [d1]
      clear hd d1
      go_wp2_with (fail)
      refine ⟨rfl, rfl, Ch.refl _ _, gds_is rfl ?_⟩
      (conv => lhs; whnf)
    · intro vs W hW hd
      simp only [fill, List.setIfInBounds_toArray, List.set_cons_zero, List.set_cons_succ]
      have d2 := gds_at rfl (hd ⟨2, .data⟩ (by simp) rfl)
      rw [d2]
      clear hd d2
      go_wp2_with (fail)
      refine ⟨rfl, rfl, Ch.refl _ _, gds_is rfl ?_⟩
      (conv => lhs; whnf)
    · intro vs W hW hd
      simp only [fill, List.setIfInBounds_toArray, List.set_cons_zero, List.set_cons_succ]
      have d3 := gds_at rfl (hd ⟨3, .guard⟩ (by simp) rfl)
      rw [d3]
      clear hd d3
      go_wp2_with (fail)
      refine ⟨rfl, rfl, Ch.refl _ _, gds_is rfl ?_⟩
      (conv => lhs; whnf)
    · intro vs W hW hd
      simp only [fill, List.setIfInBounds_toArray, List.set_cons_zero, List.set_cons_succ]
      have d3 := gds_at rfl (hd ⟨3, .guard⟩ (by simp) rfl)
      rw [d3]
      clear hd d3
      go_wp2_with (fail)
      refine ⟨rfl, rfl, Ch.refl _ _, gds_is rfl ?_⟩
      (conv => lhs; whnf)
    · intro vs W hW hd
      simp only [fill, List.setIfInBounds_toArray, List.set_cons_zero, List.set_cons_succ]
      have d3 := gds_at rfl (hd ⟨3, .guard⟩ (by simp) rfl)
      have d5 := gds_at rfl (hd ⟨5, .data⟩ (by simp) rfl)
      rw [d3, d5]
      clear hd d3 d5
      go_wp2_with (fail)
      refine ⟨rfl, rfl, Ch.refl _ _, gds_is rfl ?_⟩
      (conv => lhs; whnf)
    · intro vs W hW hd
      simp only [fill, List.setIfInBounds_toArray, List.set_cons_zero, List.set_cons_succ]
      have d3 := gds_at rfl (hd ⟨3, .guard⟩ (by simp) rfl)
      have d6 := gds_at rfl (hd ⟨6, .data⟩ (by simp) rfl)
      rw [d3, d6]
      clear hd d3 d6
      have hWW := (Ch.refl no W5).drew.same hW
      have q0 := cell_ch hWW a0
      have q1 := cell_ch hWW a1
      have q2 := cell_ch hWW b0
      have q3 := cell_ch hWW b1
      go_wp2_with (fail)
      refine ⟨rfl, rfl, Ch.refl _ _, gds_is rfl ?_⟩
      (conv => lhs; whnf)
    · intro vs W hW hd
      simp only [fill, List.setIfInBounds_toArray, List.set_cons_zero, List.set_cons_succ]
      have d3 := gds_at rfl (hd ⟨3, .guard⟩ (by simp) rfl)
      rw [d3]
      clear hd d3
      go_wp2_with (fail)
      refine ⟨rfl, rfl, Ch.refl _ _, gds_is rfl ?_⟩
      (conv => lhs; whnf)
    · intro vs W hW hd
      simp only [fill, List.setIfInBounds_toArray, List.set_cons_zero, List.set_cons_succ]
      have d3 := gds_at rfl (hd ⟨3, .guard⟩ (by simp) rfl)
      have d8 := gds_at rfl (hd ⟨8, .data⟩ (by simp) rfl)
      rw [d3, d8]
      clear hd d3 d8
      go_wp2_with (fail)
      refine ⟨rfl, rfl, Ch.refl _ _, gds_is rfl ?_⟩
      (conv => lhs; whnf)
    · intro vs W hW hd
      simp only [fill, List.setIfInBounds_toArray, List.set_cons_zero, List.set_cons_succ]
      have d3 := gds_at rfl (hd ⟨3, .guard⟩ (by simp) rfl)
      have d9 := gds_at rfl (hd ⟨9, .data⟩ (by simp) rfl)
      rw [d3, d9]
      clear hd d3 d9
      have hWW := (Ch.refl no W5).drew.same hW
      have q0 := cell_ch hWW a0
      have q1 := cell_ch hWW a1
      have q2 := cell_ch hWW b0
      have q3 := cell_ch hWW b1
      go_wp2_with (fail)
      refine ⟨rfl, rfl, Ch.refl _ _, gds_is rfl ?_⟩
      (conv => lhs; whnf)
    · intro vs W hW hd
      simp only [fill, List.setIfInBounds_toArray, List.set_cons_zero, List.set_cons_succ]
      have d3 := gds_at rfl (hd ⟨3, .guard⟩ (by simp) rfl)
      have d7 := gds_at rfl (hd ⟨7, .data⟩ (by simp) rfl)
      have d10 := gds_at rfl (hd ⟨10, .data⟩ (by simp) rfl)
      rw [d3, d7, d10]
      clear hd d3 d7 d10
      go_wp2_with (fail)
      exact ⟨rfl, rfl, (Ch.refl _ _).alloc _, gds_mk rfl ⟨_, rfl, bNew _ _⟩⟩
    · intro vs W hW hd
      simp only [fill, List.setIfInBounds_toArray, List.set_cons_zero, List.set_cons_succ]
      have d3 := gds_at rfl (hd ⟨3, .guard⟩ (by simp) rfl)
      have d4 := gds_at rfl (hd ⟨4, .data⟩ (by simp) rfl)
      have d11 := gds_get rfl (hd ⟨11, .data⟩ (by simp) rfl)
      obtain ⟨bb, e11, hbk⟩ := d11
      rw [e11]
      have HBK := Lib.hid hbk
      clear hbk e11
      rw [d3, d4]
      clear hd d3 d4
      have hWW := (Ch.refl no W5).drew.same hW
      have q0 := cell_ch hWW a0
      have q1 := cell_ch hWW a1
      have q2 := cell_ch hWW b0
      have q3 := cell_ch hWW b1
      go_wp2_with (have hs := same_of A3 (some ⟨bb, 0, none⟩) c3 2 [fx1, fy2] [fx1, fy2] W (HR3.out.ch (HC5.out.same hWW)) (row_block _ HBK.out (by decide)); rw [decide_eq_true (rfl : ([fx1, fy2] : List Fl) = [fx1, fy2])] at hs; refine hs.mono ?_; rintro e w2 ⟨rfl, hdr⟩; have hch := Dr.ch hdr no)
      exact ⟨rfl, rfl, hch, gds_is rfl rfl⟩
    · intro vs W hW hd
      simp only [fill, List.setIfInBounds_toArray, List.set_cons_zero, List.set_cons_succ]
      have d3 := gds_at rfl (hd ⟨3, .data⟩ (by simp) rfl)
      have d12 := gds_at rfl (hd ⟨12, .data⟩ (by simp) rfl)
      rw [d3, d12]
      clear hd d3 d12
      go_wp2_with (fail)
      refine ⟨rfl, rfl, Ch.refl _ _, gds_is rfl ?_⟩
      (conv => lhs; whnf)
    · intro vs W hW hd
      simp only [fill, List.setIfInBounds_toArray, List.set_cons_zero, List.set_cons_succ]
      have d13 := gds_at rfl (hd ⟨13, .data⟩ (by simp) rfl)
      rw [d13]
      clear hd d13
      go_wp2_with (fail)
      refine ⟨rfl, rfl, Ch.refl _ _, gds_is rfl ?_⟩
      (conv => lhs; whnf)
    · intro vs W hW hd
      simp only [fill, List.setIfInBounds_toArray, List.set_cons_zero, List.set_cons_succ]
      have d14 := gds_at rfl (hd ⟨14, .guard⟩ (by simp) rfl)
      rw [d14]
      clear hd d14
      go_wp2_with (fail)
      refine ⟨rfl, rfl, Ch.refl _ _, gds_is rfl ?_⟩
      (conv => lhs; whnf)
    · intro vs W hW hd
      simp only [fill, List.setIfInBounds_toArray, List.set_cons_zero, List.set_cons_succ]
      have d14 := gds_at rfl (hd ⟨14, .guard⟩ (by simp) rfl)
      rw [d14]
      clear hd d14
      go_wp2_with (fail)
      refine ⟨rfl, rfl, Ch.refl _ _, gds_is rfl ?_⟩
      (conv => lhs; whnf)
    · intro vs W hW hd
      simp only [fill, List.setIfInBounds_toArray, List.set_cons_zero, List.set_cons_succ]
      have d14 := gds_at rfl (hd ⟨14, .guard⟩ (by simp) rfl)
      have d15 := gds_at rfl (hd ⟨15, .data⟩ (by simp) rfl)
      have d16 := gds_at rfl (hd ⟨16, .data⟩ (by simp) rfl)
      rw [d14, d15, d16]
      clear hd d14 d15 d16
      have hWW := (Ch.refl no W5).drew.same hW
      have q0 := cell_ch hWW a0
      have q1 := cell_ch hWW a1
      have q2 := cell_ch hWW b0
      have q3 := cell_ch hWW b1
      go_wp2_with (have hs := same_of A5 A3 c5 c3 [fx1, fy2] [fx1, fy2] W (HR5.out.ch hWW) (HR3.out.ch (HC5.out.same hWW)); rw [decide_eq_true (rfl : ([fx1, fy2] : List Fl) = [fx1, fy2])] at hs; refine hs.mono ?_; rintro e w2 ⟨rfl, hdr⟩; have hch := Dr.ch hdr no)
      exact ⟨rfl, rfl, hch, gds_is rfl rfl⟩
    · intro vs W hW hd
      simp only [fill, List.setIfInBounds_toArray, List.set_cons_zero, List.set_cons_succ]
      have d14 := gds_at rfl (hd ⟨14, .data⟩ (by simp) rfl)
      have d17 := gds_at rfl (hd ⟨17, .data⟩ (by simp) rfl)
      rw [d14, d17]
      clear hd d14 d17
      go_wp2_with (fail)
      refine ⟨rfl, rfl, Ch.refl _ _, gds_is rfl ?_⟩
      (conv => lhs; whnf)
    · intro vs W hW hd
      simp only [fill, List.setIfInBounds_toArray, List.set_cons_zero, List.set_cons_succ]
      have d18 := gds_at rfl (hd ⟨18, .data⟩ (by simp) rfl)
      rw [d18]
      clear hd d18
      go_wp2_with (fail)
      refine ⟨rfl, rfl, Ch.refl _ _, gds_is rfl ?_⟩
      (conv => lhs; whnf)
    · intro vs W hW hd
      simp only [fill, List.setIfInBounds_toArray, List.set_cons_zero, List.set_cons_succ]
      have d19 := gds_at rfl (hd ⟨19, .guard⟩ (by simp) rfl)
      rw [d19]
      clear hd d19
      go_wp2_with (fail)
      refine ⟨rfl, rfl, Ch.refl _ _, gds_is rfl ?_⟩
      (conv => lhs; whnf)
    · intro vs W hW hd
      simp only [fill, List.setIfInBounds_toArray, List.set_cons_zero, List.set_cons_succ]
      have d19 := gds_at rfl (hd ⟨19, .guard⟩ (by simp) rfl)
      rw [d19]
      clear hd d19
      go_wp2_with (fail)
      exact ⟨rfl, rfl, (Ch.refl _ _).alloc _, gds_mk rfl ⟨_, rfl, bNew _ _⟩⟩
    · intro vs W hW hd
      simp only [fill, List.setIfInBounds_toArray, List.set_cons_zero, List.set_cons_succ]
      have d19 := gds_at rfl (hd ⟨19, .guard⟩ (by simp) rfl)
      have d20 := gds_at rfl (hd ⟨20, .data⟩ (by simp) rfl)
      have d21 := gds_get rfl (hd ⟨21, .data⟩ (by simp) rfl)
      obtain ⟨bb, e21, hbk⟩ := d21
      rw [e21]
      have HBK := Lib.hid hbk
      clear hbk e21
      rw [d19, d20]
      clear hd d19 d20
      have hWW := (Ch.refl no W5).drew.same hW
      have q0 := cell_ch hWW a0
      have q1 := cell_ch hWW a1
      have q2 := cell_ch hWW b0
      have q3 := cell_ch hWW b1
      go_wp2_with (have hs := texts_any A6 (some ⟨bb, 0, none⟩) c6 1 [⟨#[120]⟩] [⟨#[120]⟩] W (HR6.out.ch hWW) (str_block [⟨#[120]⟩] HBK.out (by decide)); rw [decide_eq_true (rfl : ([⟨#[120]⟩] : List ByteArray) = [⟨#[120]⟩])] at hs; refine hs.mono ?_; rintro e w2 ⟨rfl, hdr⟩; have hch := Dr.ch hdr no)
      exact ⟨rfl, rfl, hch, gds_is rfl rfl⟩
    · intro vs W hW hd
      simp only [fill, List.setIfInBounds_toArray, List.set_cons_zero, List.set_cons_succ]
      have d19 := gds_at rfl (hd ⟨19, .data⟩ (by simp) rfl)
      have d22 := gds_at rfl (hd ⟨22, .data⟩ (by simp) rfl)
      rw [d19, d22]
      clear hd d19 d22
      go_wp2_with (fail)
      refine ⟨rfl, rfl, Ch.refl _ _, gds_is rfl ?_⟩
      (conv => lhs; whnf)
  case fin5 =>
    intro vs W hW hd
    simp only [fill, List.setIfInBounds_toArray, List.set_cons_zero, List.set_cons_succ, List.take_succ_cons, List.take_zero, List.drop_succ_cons, List.drop_zero]
    have d0 := gds_at rfl (hd 0 (by omega))
    have d1 := gds_at rfl (hd 1 (by omega))
    have d2 := gds_at rfl (hd 2 (by omega))
    have d3 := gds_at rfl (hd 3 (by omega))
    have d4 := gds_at rfl (hd 4 (by omega))
    have d5 := gds_at rfl (hd 5 (by omega))
    have d6 := gds_at rfl (hd 6 (by omega))
    have d7 := gds_at rfl (hd 7 (by omega))
    have d8 := gds_at rfl (hd 8 (by omega))
    have d9 := gds_at rfl (hd 9 (by omega))
    have d10 := gds_at rfl (hd 10 (by omega))
    have d11 := gds_get rfl (hd 11 (by omega))
    have d12 := gds_at rfl (hd 12 (by omega))
    have d13 := gds_at rfl (hd 13 (by omega))
    have d14 := gds_at rfl (hd 14 (by omega))
    have d15 := gds_at rfl (hd 15 (by omega))
    have d16 := gds_at rfl (hd 16 (by omega))
    have d17 := gds_at rfl (hd 17 (by omega))
    have d18 := gds_at rfl (hd 18 (by omega))
    have d19 := gds_at rfl (hd 19 (by omega))
    have d20 := gds_at rfl (hd 20 (by omega))
    have d21 := gds_get rfl (hd 21 (by omega))
    have d22 := gds_at rfl (hd 22 (by omega))
    have d23 := gds_at rfl (hd 23 (by omega))
    rw [d0, d1, d2, d3, d4, d5, d6, d7, d8, d9, d10, d12, d13, d14, d15, d16, d17, d18, d19, d20, d22, d23]
    clear hd d0 d1 d2 d3 d4 d5 d6 d7 d8 d9 d10 d12 d13 d14 d15 d16 d17 d18 d19 d20 d22 d23
    have HCC := Lib.hid (HC0.out.same ((Ch.refl no W5).drew.same hW))
    clear hW
    go_wp2_with fail
    go_ret
    exact ⟨rfl, HCC.out⟩

end Go.Proofs.Ytekeiieefkgopaa.Bq
