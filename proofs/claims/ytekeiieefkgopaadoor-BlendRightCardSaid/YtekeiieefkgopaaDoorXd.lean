/- Trees that are right: the program's look at one: walked. Two sides' trees, together, are a right tree: the plain law; what a good tree is. BlendRight: two sides' trees, together, are a right tree, and have what both have. -/
import Derived.Test.YtekeiieefkgopaaDoorXc
import Derived.Test.YtekeiieefkgopaaDoorDn
namespace Go.Proofs.YtekeiieefkgopaaDoor.Uf
open Go Go.RowKit Go.Proofs.YtekeiieefkgopaaDoor.Aa Go.Proofs.YtekeiieefkgopaaDoor.Vw Go.Proofs.YtekeiieefkgopaaDoor.Ma Go.Proofs.YtekeiieefkgopaaDoor.Mb Go.Proofs.YtekeiieefkgopaaDoor.Mr Go.Proofs.YtekeiieefkgopaaDoor.Mt Go.Proofs.YtekeiieefkgopaaDoor.Dn Go.Proofs.YtekeiieefkgopaaDoor.Mi Go.Proofs.YtekeiieefkgopaaDoor.Ba Go.Proofs.YtekeiieefkgopaaDoor.Bb Go.Proofs.YtekeiieefkgopaaDoor.Bg Go.Proofs.YtekeiieefkgopaaDoor.Bm Go.Proofs.YtekeiieefkgopaaDoor.Bn Go.Proofs.YtekeiieefkgopaaDoor.Ua Go.Proofs.YtekeiieefkgopaaDoor.Ub Go.Proofs.YtekeiieefkgopaaDoor.Uc Go.Proofs.YtekeiieefkgopaaDoor.Ud Go.Proofs.YtekeiieefkgopaaDoor.Ue
set_option linter.unusedVariables false
set_option linter.unusedSimpArgs false

theorem leq_less (p q : ByteArray) : (Op.bytesLess p.toList q.toList || p.toList == q.toList) = !less q p := by
  show (less p q || p.toList == q.toList) = !less q p
  cases h : less q p with
  | true =>
    rw [less_asym h, beq_no (fun e => less_ne h e.symm)]; rfl
  | false =>
    by_cases e : p = q
    · rw [beq_yes e]; simp
    · cases h2 : less p q with
      | true => rfl
      | false => exact absurd (less_tri h2 h) e
theorem leq_run (p q : ByteArray) (w : World) : (binOp .leq 9 (.string p) (.string q)).run Tryd.prog w = .ok (.bool (!less q p)) w := by
  rw [← leq_less]
  simp [binOp, go_sem, Op.stringOp, Op.bytesLess, Tryd.underlying9]
set_option maxRecDepth 100000 in
set_option maxHeartbeats 16000000 in
theorem right_of (A : Option Addr) (c : Nat) (t : List Fl) (w : World) (ht : file.Row w A c t) (hz : ∀ f ∈ t, f.path.size ≤ 1000000) :
    Calls Tryd.prog 14 #[.slice A t.length c] w fun e w' => e = .returned (.bool (rightB t)) ∧ Ch no w w' := by
  have hl := ht.len
  have HT := Lib.hid ht; have HZ := Lib.hid hz
  clear ht hz
  go_enter Tryd.func14, Tryd.ntmps14
  go_wp2_with fail
  go_loopw [7] (fun i wr => ∃ k : Nat, k ≤ t.length ∧ i = .int .i64 k ∧ Hid (∀ j, j < k → okAt t j = true) ∧ Hid (Ch no w wr)) (fun i _ => t.length - (intOf i).toNat)
  case atStart => exact ⟨0, by omega, rfl, Lib.hid (fun j h => by omega), Lib.hid (Ch.refl no w)⟩
  case round =>
    obtain ⟨k, hk, rfl, HR, HC⟩ := hrel
    by_cases hlt : k < t.length
    · obtain ⟨ad, rfl, hc0, hc1⟩ := file_at (HT.out.ch HC.out) k hlt
      have hzp : t[k].path.size ≤ 1000000 := HZ.out _ (List.getElem_mem _)
      have HNO := Lib.hid (fun hh => right_no hlt (okAt_can hlt hh))
      have HZE := Lib.hid (fun (h0 : k = 0) => (show okAt t k = canB t[k] by subst h0; exact okAt_zero hlt))
      have HSU := Lib.hid (fun (m : Nat) (hm : k = m + 1) => (show okAt t k = (canB t[k] && less (t[m]'(by omega)).path t[k].path) by subst hm; exact okAt_succ hlt))
      obtain ⟨f, hf⟩ : ∃ f, t[k] = f := ⟨_, rfl⟩
      rw [hf] at hc0 hc1 hzp HNO HZE HSU
      clear hf
      obtain ⟨p, x⟩ := f
      simp only at hc0 hc1 hzp HSU
      have hb := bNew wr (.cells #[.string p, .string x] 31)
      have hc2 : Ch no wr (wr.alloc (.cells #[.string p, .string x] 31)) := (Ch.refl no wr).alloc _
      obtain ⟨g, hg⟩ : ∃ g, wr.heap.size = g := ⟨_, rfl⟩
      obtain ⟨w0, hw0⟩ : ∃ w0, wr.alloc (.cells #[.string p, .string x] 31) = w0 := ⟨_, rfl⟩
      rw [hg, hw0] at hb
      rw [hw0] at hc2
      have HBK := Lib.hid hb; have HC0 := Lib.hid (HC.out.then_ hc2)
      clear hb hc2
      go_upto_region 4 with (fail)
      try rw [hw0]
      clear hg hw0 hc0 hc1
      have p0 := (bCell HBK.out 0).trans rfl
      have p1 := (bCell HBK.out 1).trans rfl
      obtain ⟨q, hq⟩ : ∃ q, canB ⟨p, x⟩ = q := ⟨_, rfl⟩
      rw [hq] at HNO HZE HSU
      have HCB := Lib.hid hq
      clear hq
      cases q with
      | false =>
        have HF : Hid (rightB t = false) := Lib.hid (HNO.out rfl)
        refine wp_region_tail9 (G := gds [Gd.is (.agg #[.string p, .string x]), Gd.is (.bool false), Gd.is (.bool true), Gd.is (.bool true), Gd.is undef, Gd.is undef, Gd.is undef, Gd.is undef, Gd.is undef, Gd.is undef, Gd.is undef, Gd.is undef, Gd.is undef, Gd.is undef, Gd.is undef, Gd.is undef, Gd.is undef]) 17 (by kernel_rfl) (by kernel_rfl) rfl (by kernel_rfl) gds_st ?obl4a ?fin4a
        case obl4a =>
          simp only [Obls, and_true, List.take_succ_cons, List.take_zero]
          refine ⟨?_, ?_, ?_, ?_, ?_, ?_, ?_, ?_, ?_, ?_, ?_, ?_, ?_, ?_, ?_, ?_, ?_⟩
          · intro vs W hW hd
            simp only [fill, List.setIfInBounds_toArray, List.set_cons_zero, List.set_cons_succ]
            clear hd
            have hWW := (Ch.refl no w0).drew.same hW
            have q0 := cell_ch hWW p0
            have q1 := cell_ch hWW p1
            go_wp2_with (fail)
            refine ⟨rfl, rfl, Ch.refl _ _, gds_is rfl ?_⟩
            (conv => lhs; whnf)
          · intro vs W hW hd
            simp only [fill, List.setIfInBounds_toArray, List.set_cons_zero, List.set_cons_succ]
            have d0 := gds_at rfl (hd ⟨0, .data⟩ (by simp) rfl)
            rw [d0]
            clear hd d0
            have hWW := (Ch.refl no w0).drew.same hW
            have q0 := cell_ch hWW p0
            have q1 := cell_ch hWW p1
            go_wp2_with (have hs := can_of ⟨p, x⟩ W hzp; rw [HCB.out] at hs; refine hs.mono ?_; rintro e w2 ⟨rfl, hch⟩)
            exact ⟨rfl, rfl, hch, gds_is rfl rfl⟩
          · intro vs W hW hd
            simp only [fill, List.setIfInBounds_toArray, List.set_cons_zero, List.set_cons_succ]
            have d1 := gds_at rfl (hd ⟨1, .data⟩ (by simp) rfl)
            rw [d1]
            clear hd d1
            go_wp2_with (fail)
            refine ⟨rfl, rfl, Ch.refl _ _, gds_is rfl ?_⟩
            (conv => lhs; whnf)
          · intro vs W hW hd
            simp only [fill, List.setIfInBounds_toArray, List.set_cons_zero, List.set_cons_succ]
            have d2 := gds_at rfl (hd ⟨2, .data⟩ (by simp) rfl)
            rw [d2]
            clear hd d2
            go_wp2_with (fail)
            refine ⟨rfl, rfl, Ch.refl _ _, gds_is rfl ?_⟩
            (conv => lhs; whnf)
          · intro vs W hW hd
            simp only [fill, List.setIfInBounds_toArray, List.set_cons_zero, List.set_cons_succ]
            have d3 := gds_at rfl (hd ⟨3, .guard⟩ (by simp) rfl)
            rw [d3]
            clear hd d3
            go_wp2_with (fail)
            exact ⟨rfl, rfl, Ch.refl _ _, gds_is rfl rfl⟩
          · intro vs W hW hd
            simp only [fill, List.setIfInBounds_toArray, List.set_cons_zero, List.set_cons_succ]
            have d3 := gds_at rfl (hd ⟨3, .guard⟩ (by simp) rfl)
            have d4 := gds_at rfl (hd ⟨4, .data⟩ (by simp) rfl)
            rw [d3, d4]
            clear hd d3 d4
            go_wp2_with (fail)
            exact ⟨rfl, rfl, Ch.refl _ _, gds_is rfl rfl⟩
          · intro vs W hW hd
            simp only [fill, List.setIfInBounds_toArray, List.set_cons_zero, List.set_cons_succ]
            have d3 := gds_at rfl (hd ⟨3, .guard⟩ (by simp) rfl)
            have d5 := gds_at rfl (hd ⟨5, .data⟩ (by simp) rfl)
            rw [d3, d5]
            clear hd d3 d5
            go_wp2_with (fail)
            exact ⟨rfl, rfl, Ch.refl _ _, gds_is rfl rfl⟩
          · intro vs W hW hd
            simp only [fill, List.setIfInBounds_toArray, List.set_cons_zero, List.set_cons_succ]
            have d6 := gds_at rfl (hd ⟨6, .guard⟩ (by simp) rfl)
            rw [d6]
            clear hd d6
            go_wp2_with (fail)
            exact ⟨rfl, rfl, Ch.refl _ _, gds_is rfl rfl⟩
          · intro vs W hW hd
            simp only [fill, List.setIfInBounds_toArray, List.set_cons_zero, List.set_cons_succ]
            have d6 := gds_at rfl (hd ⟨6, .guard⟩ (by simp) rfl)
            have d7 := gds_at rfl (hd ⟨7, .data⟩ (by simp) rfl)
            rw [d6, d7]
            clear hd d6 d7
            have hWW := (Ch.refl no w0).drew.same hW
            have q0 := cell_ch hWW p0
            have q1 := cell_ch hWW p1
            go_wp2_with (fail)
            exact ⟨rfl, rfl, Ch.refl _ _, gds_is rfl rfl⟩
          · intro vs W hW hd
            simp only [fill, List.setIfInBounds_toArray, List.set_cons_zero, List.set_cons_succ]
            have d6 := gds_at rfl (hd ⟨6, .guard⟩ (by simp) rfl)
            rw [d6]
            clear hd d6
            go_wp2_with (fail)
            exact ⟨rfl, rfl, Ch.refl _ _, gds_is rfl rfl⟩
          · intro vs W hW hd
            simp only [fill, List.setIfInBounds_toArray, List.set_cons_zero, List.set_cons_succ]
            have d6 := gds_at rfl (hd ⟨6, .guard⟩ (by simp) rfl)
            rw [d6]
            clear hd d6
            go_wp2_with (fail)
            exact ⟨rfl, rfl, Ch.refl _ _, gds_is rfl rfl⟩
          · intro vs W hW hd
            simp only [fill, List.setIfInBounds_toArray, List.set_cons_zero, List.set_cons_succ]
            have d6 := gds_at rfl (hd ⟨6, .guard⟩ (by simp) rfl)
            have d10 := gds_at rfl (hd ⟨10, .data⟩ (by simp) rfl)
            rw [d6, d10]
            clear hd d6 d10
            go_wp2_with (fail)
            exact ⟨rfl, rfl, Ch.refl _ _, gds_is rfl rfl⟩
          · intro vs W hW hd
            simp only [fill, List.setIfInBounds_toArray, List.set_cons_zero, List.set_cons_succ]
            have d6 := gds_at rfl (hd ⟨6, .guard⟩ (by simp) rfl)
            have d9 := gds_at rfl (hd ⟨9, .data⟩ (by simp) rfl)
            have d11 := gds_at rfl (hd ⟨11, .data⟩ (by simp) rfl)
            rw [d6, d9, d11]
            clear hd d6 d9 d11
            go_wp2_with (fail)
            exact ⟨rfl, rfl, Ch.refl _ _, gds_is rfl rfl⟩
          · intro vs W hW hd
            simp only [fill, List.setIfInBounds_toArray, List.set_cons_zero, List.set_cons_succ]
            have d6 := gds_at rfl (hd ⟨6, .guard⟩ (by simp) rfl)
            have d12 := gds_at rfl (hd ⟨12, .data⟩ (by simp) rfl)
            rw [d6, d12]
            clear hd d6 d12
            go_wp2_with (fail)
            exact ⟨rfl, rfl, Ch.refl _ _, gds_is rfl rfl⟩
          · intro vs W hW hd
            simp only [fill, List.setIfInBounds_toArray, List.set_cons_zero, List.set_cons_succ]
            have d6 := gds_at rfl (hd ⟨6, .guard⟩ (by simp) rfl)
            have d13 := gds_at rfl (hd ⟨13, .data⟩ (by simp) rfl)
            rw [d6, d13]
            clear hd d6 d13
            have hWW := (Ch.refl no w0).drew.same hW
            have q0 := cell_ch hWW p0
            have q1 := cell_ch hWW p1
            go_wp2_with (fail)
            exact ⟨rfl, rfl, Ch.refl _ _, gds_is rfl rfl⟩
          · intro vs W hW hd
            simp only [fill, List.setIfInBounds_toArray, List.set_cons_zero, List.set_cons_succ]
            have d6 := gds_at rfl (hd ⟨6, .guard⟩ (by simp) rfl)
            have d8 := gds_at rfl (hd ⟨8, .data⟩ (by simp) rfl)
            have d14 := gds_at rfl (hd ⟨14, .data⟩ (by simp) rfl)
            rw [d6, d8, d14]
            clear hd d6 d8 d14
            go_wp2_with (fail)
            exact ⟨rfl, rfl, Ch.refl _ _, gds_is rfl rfl⟩
          · intro vs W hW hd
            simp only [fill, List.setIfInBounds_toArray, List.set_cons_zero, List.set_cons_succ]
            have d3 := gds_at rfl (hd ⟨3, .guard⟩ (by simp) rfl)
            have d6 := gds_at rfl (hd ⟨6, .data⟩ (by simp) rfl)
            have d15 := gds_at rfl (hd ⟨15, .data⟩ (by simp) rfl)
            rw [d3, d6, d15]
            clear hd d3 d6 d15
            go_wp2_with (fail)
            exact ⟨rfl, rfl, Ch.refl _ _, gds_is rfl rfl⟩
        case fin4a =>
          intro vs W hW hd
          simp only [fill, List.setIfInBounds_toArray, List.set_cons_zero, List.set_cons_succ, List.take_succ_cons, List.take_zero, List.drop_succ_cons, List.drop_zero]
          have d0 := gds_at rfl (hd 0 (by omega))
          have d1 := gds_at rfl (hd 1 (by omega))
          have d2 := gds_at rfl (hd 2 (by omega))
          have d3 := gds_at rfl (hd 3 (by omega))
          have d4 := gds_at rfl (hd 4 (by omega))
          have d5 := gds_at rfl (hd 5 (by omega))
          have d6 := gds_at rfl (hd 6 (by omega))
          have d7 := gds_at rfl (hd 7 (by omega))
          have d8 := gds_at rfl (hd 8 (by omega))
          have d9 := gds_at rfl (hd 9 (by omega))
          have d10 := gds_at rfl (hd 10 (by omega))
          have d11 := gds_at rfl (hd 11 (by omega))
          have d12 := gds_at rfl (hd 12 (by omega))
          have d13 := gds_at rfl (hd 13 (by omega))
          have d14 := gds_at rfl (hd 14 (by omega))
          have d15 := gds_at rfl (hd 15 (by omega))
          have d16 := gds_at rfl (hd 16 (by omega))
          rw [d0, d1, d2, d3, d4, d5, d6, d7, d8, d9, d10, d11, d12, d13, d14, d15, d16]
          clear hd d0 d1 d2 d3 d4 d5 d6 d7 d8 d9 d10 d11 d12 d13 d14 d15 d16
          go_wp2_with fail
          go_ret
          exact ⟨by rw [HF.out]; rfl, (HC0.out.then_ ((Ch.refl no w0).drew.same hW))⟩
      | true =>
        rcases Nat.eq_zero_or_pos k with hk0 | hk0
        · have HR2 : Hid (∀ j, j < k + 1 → okAt t j = true) := Lib.hid (fun j hj => by
            by_cases e : j = k
            · subst e; rw [HZE.out hk0]
            · exact HR.out j (by omega))
          have hpos : ¬ (0 : Int) < (k : Int) := by omega
          have hpos2 : ¬ 0 < k := by omega
          clear hk0
          refine wp_region_tail9 (G := gds [Gd.is (.agg #[.string p, .string x]), Gd.is (.bool true), Gd.is (.bool false), Gd.is (.bool false), Gd.is (.int .i64 ((k : Nat) : Int)), Gd.is (.bool false), Gd.is (.bool false), Gd.is undef, Gd.is undef, Gd.is undef, Gd.is undef, Gd.is undef, Gd.is undef, Gd.is undef, Gd.is undef, Gd.is undef, Gd.is (.bool false)]) 17 (by kernel_rfl) (by kernel_rfl) rfl (by kernel_rfl) gds_st ?obl4b ?fin4b
          case obl4b =>
            simp only [Obls, and_true, List.take_succ_cons, List.take_zero]
            refine ⟨?_, ?_, ?_, ?_, ?_, ?_, ?_, ?_, ?_, ?_, ?_, ?_, ?_, ?_, ?_, ?_, ?_⟩
            · intro vs W hW hd
              simp only [fill, List.setIfInBounds_toArray, List.set_cons_zero, List.set_cons_succ]
              clear hd
              have hWW := (Ch.refl no w0).drew.same hW
              have q0 := cell_ch hWW p0
              have q1 := cell_ch hWW p1
              go_wp2_with (fail)
              refine ⟨rfl, rfl, Ch.refl _ _, gds_is rfl ?_⟩
              (conv => lhs; whnf)
            · intro vs W hW hd
              simp only [fill, List.setIfInBounds_toArray, List.set_cons_zero, List.set_cons_succ]
              have d0 := gds_at rfl (hd ⟨0, .data⟩ (by simp) rfl)
              rw [d0]
              clear hd d0
              have hWW := (Ch.refl no w0).drew.same hW
              have q0 := cell_ch hWW p0
              have q1 := cell_ch hWW p1
              go_wp2_with (have hs := can_of ⟨p, x⟩ W hzp; rw [HCB.out] at hs; refine hs.mono ?_; rintro e w2 ⟨rfl, hch⟩)
              exact ⟨rfl, rfl, hch, gds_is rfl rfl⟩
            · intro vs W hW hd
              simp only [fill, List.setIfInBounds_toArray, List.set_cons_zero, List.set_cons_succ]
              have d1 := gds_at rfl (hd ⟨1, .data⟩ (by simp) rfl)
              rw [d1]
              clear hd d1
              go_wp2_with (fail)
              refine ⟨rfl, rfl, Ch.refl _ _, gds_is rfl ?_⟩
              (conv => lhs; whnf)
            · intro vs W hW hd
              simp only [fill, List.setIfInBounds_toArray, List.set_cons_zero, List.set_cons_succ]
              have d2 := gds_at rfl (hd ⟨2, .data⟩ (by simp) rfl)
              rw [d2]
              clear hd d2
              go_wp2_with (fail)
              refine ⟨rfl, rfl, Ch.refl _ _, gds_is rfl ?_⟩
              (conv => lhs; whnf)
            · intro vs W hW hd
              simp only [fill, List.setIfInBounds_toArray, List.set_cons_zero, List.set_cons_succ]
              have d3 := gds_at rfl (hd ⟨3, .guard⟩ (by simp) rfl)
              rw [d3]
              clear hd d3
              go_wp2_with (fail)
              refine ⟨rfl, rfl, Ch.refl _ _, gds_is rfl ?_⟩
              (conv => lhs; whnf)
            · intro vs W hW hd
              simp only [fill, List.setIfInBounds_toArray, List.set_cons_zero, List.set_cons_succ]
              have d3 := gds_at rfl (hd ⟨3, .guard⟩ (by simp) rfl)
              have d4 := gds_at rfl (hd ⟨4, .data⟩ (by simp) rfl)
              rw [d3, d4]
              clear hd d3 d4
              go_wp2_with (fail)
              refine ⟨rfl, rfl, Ch.refl _ _, gds_is rfl ?_⟩
              (conv => lhs; whnf)
            · intro vs W hW hd
              simp only [fill, List.setIfInBounds_toArray, List.set_cons_zero, List.set_cons_succ]
              have d3 := gds_at rfl (hd ⟨3, .guard⟩ (by simp) rfl)
              have d5 := gds_at rfl (hd ⟨5, .data⟩ (by simp) rfl)
              rw [d3, d5]
              clear hd d3 d5
              go_wp2_with (fail)
              refine ⟨rfl, rfl, Ch.refl _ _, gds_is rfl ?_⟩
              (conv => lhs; whnf)
            · intro vs W hW hd
              simp only [fill, List.setIfInBounds_toArray, List.set_cons_zero, List.set_cons_succ]
              have d6 := gds_at rfl (hd ⟨6, .guard⟩ (by simp) rfl)
              rw [d6]
              clear hd d6
              go_wp2_with (fail)
              exact ⟨rfl, rfl, Ch.refl _ _, gds_is rfl rfl⟩
            · intro vs W hW hd
              simp only [fill, List.setIfInBounds_toArray, List.set_cons_zero, List.set_cons_succ]
              have d6 := gds_at rfl (hd ⟨6, .guard⟩ (by simp) rfl)
              have d7 := gds_at rfl (hd ⟨7, .data⟩ (by simp) rfl)
              rw [d6, d7]
              clear hd d6 d7
              have hWW := (Ch.refl no w0).drew.same hW
              have q0 := cell_ch hWW p0
              have q1 := cell_ch hWW p1
              go_wp2_with (fail)
              exact ⟨rfl, rfl, Ch.refl _ _, gds_is rfl rfl⟩
            · intro vs W hW hd
              simp only [fill, List.setIfInBounds_toArray, List.set_cons_zero, List.set_cons_succ]
              have d6 := gds_at rfl (hd ⟨6, .guard⟩ (by simp) rfl)
              rw [d6]
              clear hd d6
              go_wp2_with (fail)
              exact ⟨rfl, rfl, Ch.refl _ _, gds_is rfl rfl⟩
            · intro vs W hW hd
              simp only [fill, List.setIfInBounds_toArray, List.set_cons_zero, List.set_cons_succ]
              have d6 := gds_at rfl (hd ⟨6, .guard⟩ (by simp) rfl)
              rw [d6]
              clear hd d6
              go_wp2_with (fail)
              exact ⟨rfl, rfl, Ch.refl _ _, gds_is rfl rfl⟩
            · intro vs W hW hd
              simp only [fill, List.setIfInBounds_toArray, List.set_cons_zero, List.set_cons_succ]
              have d6 := gds_at rfl (hd ⟨6, .guard⟩ (by simp) rfl)
              have d10 := gds_at rfl (hd ⟨10, .data⟩ (by simp) rfl)
              rw [d6, d10]
              clear hd d6 d10
              go_wp2_with (fail)
              exact ⟨rfl, rfl, Ch.refl _ _, gds_is rfl rfl⟩
            · intro vs W hW hd
              simp only [fill, List.setIfInBounds_toArray, List.set_cons_zero, List.set_cons_succ]
              have d6 := gds_at rfl (hd ⟨6, .guard⟩ (by simp) rfl)
              have d9 := gds_at rfl (hd ⟨9, .data⟩ (by simp) rfl)
              have d11 := gds_at rfl (hd ⟨11, .data⟩ (by simp) rfl)
              rw [d6, d9, d11]
              clear hd d6 d9 d11
              go_wp2_with (fail)
              exact ⟨rfl, rfl, Ch.refl _ _, gds_is rfl rfl⟩
            · intro vs W hW hd
              simp only [fill, List.setIfInBounds_toArray, List.set_cons_zero, List.set_cons_succ]
              have d6 := gds_at rfl (hd ⟨6, .guard⟩ (by simp) rfl)
              have d12 := gds_at rfl (hd ⟨12, .data⟩ (by simp) rfl)
              rw [d6, d12]
              clear hd d6 d12
              go_wp2_with (fail)
              exact ⟨rfl, rfl, Ch.refl _ _, gds_is rfl rfl⟩
            · intro vs W hW hd
              simp only [fill, List.setIfInBounds_toArray, List.set_cons_zero, List.set_cons_succ]
              have d6 := gds_at rfl (hd ⟨6, .guard⟩ (by simp) rfl)
              have d13 := gds_at rfl (hd ⟨13, .data⟩ (by simp) rfl)
              rw [d6, d13]
              clear hd d6 d13
              have hWW := (Ch.refl no w0).drew.same hW
              have q0 := cell_ch hWW p0
              have q1 := cell_ch hWW p1
              go_wp2_with (fail)
              exact ⟨rfl, rfl, Ch.refl _ _, gds_is rfl rfl⟩
            · intro vs W hW hd
              simp only [fill, List.setIfInBounds_toArray, List.set_cons_zero, List.set_cons_succ]
              have d6 := gds_at rfl (hd ⟨6, .guard⟩ (by simp) rfl)
              have d8 := gds_at rfl (hd ⟨8, .data⟩ (by simp) rfl)
              have d14 := gds_at rfl (hd ⟨14, .data⟩ (by simp) rfl)
              rw [d6, d8, d14]
              clear hd d6 d8 d14
              go_wp2_with (fail)
              exact ⟨rfl, rfl, Ch.refl _ _, gds_is rfl rfl⟩
            · intro vs W hW hd
              simp only [fill, List.setIfInBounds_toArray, List.set_cons_zero, List.set_cons_succ]
              have d3 := gds_at rfl (hd ⟨3, .guard⟩ (by simp) rfl)
              have d6 := gds_at rfl (hd ⟨6, .data⟩ (by simp) rfl)
              have d15 := gds_at rfl (hd ⟨15, .data⟩ (by simp) rfl)
              rw [d3, d6, d15]
              clear hd d3 d6 d15
              go_wp2_with (fail)
              refine ⟨rfl, rfl, Ch.refl _ _, gds_is rfl ?_⟩
              (conv => lhs; whnf)
          case fin4b =>
            intro vs W hW hd
            simp only [fill, List.setIfInBounds_toArray, List.set_cons_zero, List.set_cons_succ, List.take_succ_cons, List.take_zero, List.drop_succ_cons, List.drop_zero]
            have d0 := gds_at rfl (hd 0 (by omega))
            have d1 := gds_at rfl (hd 1 (by omega))
            have d2 := gds_at rfl (hd 2 (by omega))
            have d3 := gds_at rfl (hd 3 (by omega))
            have d4 := gds_at rfl (hd 4 (by omega))
            have d5 := gds_at rfl (hd 5 (by omega))
            have d6 := gds_at rfl (hd 6 (by omega))
            have d7 := gds_at rfl (hd 7 (by omega))
            have d8 := gds_at rfl (hd 8 (by omega))
            have d9 := gds_at rfl (hd 9 (by omega))
            have d10 := gds_at rfl (hd 10 (by omega))
            have d11 := gds_at rfl (hd 11 (by omega))
            have d12 := gds_at rfl (hd 12 (by omega))
            have d13 := gds_at rfl (hd 13 (by omega))
            have d14 := gds_at rfl (hd 14 (by omega))
            have d15 := gds_at rfl (hd 15 (by omega))
            have d16 := gds_at rfl (hd 16 (by omega))
            rw [d0, d1, d2, d3, d4, d5, d6, d7, d8, d9, d10, d11, d12, d13, d14, d15, d16]
            clear hd d0 d1 d2 d3 d4 d5 d6 d7 d8 d9 d10 d11 d12 d13 d14 d15 d16
            go_wp2_with fail
            go_roundw
            case rel => exact ⟨k + 1, by omega, by go_num, HR2, Lib.hid (HC0.out.then_ ((Ch.refl no w0).drew.same hW))⟩
            case measure => simp [intOf]; omega
        · obtain ⟨m, rfl⟩ : ∃ m, k = m + 1 := ⟨k - 1, by omega⟩
          obtain ⟨ad', had, p2, _⟩ := file_at (HT.out.ch HC0.out) m (by omega)
          obtain rfl : ad = ad' := by injection had
          clear had
          have HS2 := Lib.hid (HSU.out m rfl)
          obtain ⟨pp, hpp⟩ : ∃ pp, (t[m]'(by omega)).path = pp := ⟨_, rfl⟩
          rw [hpp] at p2 HS2
          obtain ⟨b, hbb⟩ : ∃ b, less pp p = b := ⟨_, rfl⟩
          rw [hbb] at HS2
          have HLR : Hid (∀ W : World, (binOp .leq 9 (.string p) (.string pp)).run Tryd.prog W = .ok (.bool (!b)) W) := Lib.hid (fun W => by rw [← hbb]; exact leq_run p pp W)
          have HLQ : Hid ((Op.bytesLess p.toList pp.toList || p.toList == pp.toList) = !b) := Lib.hid (by rw [← hbb]; exact leq_less p pp)
          have hpos : (0 : Int) < (m : Int) + 1 := by omega
          clear hpp hbb HSU HZE HNO
          refine wp_region_tail9 (G := gds [Gd.is (.agg #[.string p, .string x]), Gd.is (.bool true), Gd.is (.bool false), Gd.is (.bool false), Gd.is (.int .i64 ((m + 1 : Nat) : Int)), Gd.is (.bool true), Gd.is (.bool true), Gd.is (.pointer (some ⟨g, 0, none⟩)), Gd.is (.string p), Gd.is (.slice (some ad) t.length c), Gd.is (.int .i64 ((m + 1 : Nat) : Int)), Gd.is (.int .i64 ((m : Nat) : Int)), Gd.is (.pointer (some (ad.add (m * 2)))), Gd.is (.pointer (some (ad.add (m * 2)))), Gd.is (.string pp), Gd.is (.bool (!b)), Gd.is (.bool (!b))]) 17 (by kernel_rfl) (by kernel_rfl) rfl (by kernel_rfl) gds_st ?obl4c ?fin4c
          case obl4c =>
            simp only [Obls, and_true, List.take_succ_cons, List.take_zero]
            refine ⟨?_, ?_, ?_, ?_, ?_, ?_, ?_, ?_, ?_, ?_, ?_, ?_, ?_, ?_, ?_, ?_, ?_⟩
            · intro vs W hW hd
              simp only [fill, List.setIfInBounds_toArray, List.set_cons_zero, List.set_cons_succ]
              clear hd
              have hWW := (Ch.refl no w0).drew.same hW
              have q0 := cell_ch hWW p0
              have q1 := cell_ch hWW p1
              have q2 := cell_ch hWW p2
              go_wp2_with (fail)
              refine ⟨rfl, rfl, Ch.refl _ _, gds_is rfl ?_⟩
              (conv => lhs; whnf)
            · intro vs W hW hd
              simp only [fill, List.setIfInBounds_toArray, List.set_cons_zero, List.set_cons_succ]
              have d0 := gds_at rfl (hd ⟨0, .data⟩ (by simp) rfl)
              rw [d0]
              clear hd d0
              have hWW := (Ch.refl no w0).drew.same hW
              have q0 := cell_ch hWW p0
              have q1 := cell_ch hWW p1
              have q2 := cell_ch hWW p2
              go_wp2_with (have hs := can_of ⟨p, x⟩ W hzp; rw [HCB.out] at hs; refine hs.mono ?_; rintro e w2 ⟨rfl, hch⟩)
              exact ⟨rfl, rfl, hch, gds_is rfl rfl⟩
            · intro vs W hW hd
              simp only [fill, List.setIfInBounds_toArray, List.set_cons_zero, List.set_cons_succ]
              have d1 := gds_at rfl (hd ⟨1, .data⟩ (by simp) rfl)
              rw [d1]
              clear hd d1
              go_wp2_with (fail)
              refine ⟨rfl, rfl, Ch.refl _ _, gds_is rfl ?_⟩
              (conv => lhs; whnf)
            · intro vs W hW hd
              simp only [fill, List.setIfInBounds_toArray, List.set_cons_zero, List.set_cons_succ]
              have d2 := gds_at rfl (hd ⟨2, .data⟩ (by simp) rfl)
              rw [d2]
              clear hd d2
              go_wp2_with (fail)
              refine ⟨rfl, rfl, Ch.refl _ _, gds_is rfl ?_⟩
              (conv => lhs; whnf)
            · intro vs W hW hd
              simp only [fill, List.setIfInBounds_toArray, List.set_cons_zero, List.set_cons_succ]
              have d3 := gds_at rfl (hd ⟨3, .guard⟩ (by simp) rfl)
              rw [d3]
              clear hd d3
              go_wp2_with (fail)
              refine ⟨rfl, rfl, Ch.refl _ _, gds_is rfl ?_⟩
              (conv => lhs; whnf)
            · intro vs W hW hd
              simp only [fill, List.setIfInBounds_toArray, List.set_cons_zero, List.set_cons_succ]
              have d3 := gds_at rfl (hd ⟨3, .guard⟩ (by simp) rfl)
              have d4 := gds_at rfl (hd ⟨4, .data⟩ (by simp) rfl)
              rw [d3, d4]
              clear hd d3 d4
              go_wp2_with (fail)
              refine ⟨rfl, rfl, Ch.refl _ _, gds_is rfl ?_⟩
              (conv => lhs; whnf)
            · intro vs W hW hd
              simp only [fill, List.setIfInBounds_toArray, List.set_cons_zero, List.set_cons_succ]
              have d3 := gds_at rfl (hd ⟨3, .guard⟩ (by simp) rfl)
              have d5 := gds_at rfl (hd ⟨5, .data⟩ (by simp) rfl)
              rw [d3, d5]
              clear hd d3 d5
              go_wp2_with (fail)
              refine ⟨rfl, rfl, Ch.refl _ _, gds_is rfl ?_⟩
              (conv => lhs; whnf)
            · intro vs W hW hd
              simp only [fill, List.setIfInBounds_toArray, List.set_cons_zero, List.set_cons_succ]
              have d6 := gds_at rfl (hd ⟨6, .guard⟩ (by simp) rfl)
              rw [d6]
              clear hd d6
              go_wp2_with (fail)
              refine ⟨rfl, rfl, Ch.refl _ _, gds_is rfl ?_⟩
              (conv => lhs; whnf)
            · intro vs W hW hd
              simp only [fill, List.setIfInBounds_toArray, List.set_cons_zero, List.set_cons_succ]
              have d6 := gds_at rfl (hd ⟨6, .guard⟩ (by simp) rfl)
              have d7 := gds_at rfl (hd ⟨7, .data⟩ (by simp) rfl)
              rw [d6, d7]
              clear hd d6 d7
              have hWW := (Ch.refl no w0).drew.same hW
              have q0 := cell_ch hWW p0
              have q1 := cell_ch hWW p1
              have q2 := cell_ch hWW p2
              go_wp2_with (fail)
              refine ⟨rfl, rfl, Ch.refl _ _, gds_is rfl ?_⟩
              (conv => lhs; whnf)
            · intro vs W hW hd
              simp only [fill, List.setIfInBounds_toArray, List.set_cons_zero, List.set_cons_succ]
              have d6 := gds_at rfl (hd ⟨6, .guard⟩ (by simp) rfl)
              rw [d6]
              clear hd d6
              go_wp2_with (fail)
              refine ⟨rfl, rfl, Ch.refl _ _, gds_is rfl ?_⟩
              (conv => lhs; whnf)
            · intro vs W hW hd
              simp only [fill, List.setIfInBounds_toArray, List.set_cons_zero, List.set_cons_succ]
              have d6 := gds_at rfl (hd ⟨6, .guard⟩ (by simp) rfl)
              rw [d6]
              clear hd d6
              go_wp2_with (fail)
              refine ⟨rfl, rfl, Ch.refl _ _, gds_is rfl ?_⟩
              (conv => lhs; whnf)
            · intro vs W hW hd
              simp only [fill, List.setIfInBounds_toArray, List.set_cons_zero, List.set_cons_succ]
              have d6 := gds_at rfl (hd ⟨6, .guard⟩ (by simp) rfl)
              have d10 := gds_at rfl (hd ⟨10, .data⟩ (by simp) rfl)
              rw [d6, d10]
              clear hd d6 d10
              go_wp2_with (fail)
              refine ⟨rfl, rfl, Ch.refl _ _, gds_is rfl ?_⟩
              (conv => lhs; whnf)
            · intro vs W hW hd
              simp only [fill, List.setIfInBounds_toArray, List.set_cons_zero, List.set_cons_succ]
              have d6 := gds_at rfl (hd ⟨6, .guard⟩ (by simp) rfl)
              have d9 := gds_at rfl (hd ⟨9, .data⟩ (by simp) rfl)
              have d11 := gds_at rfl (hd ⟨11, .data⟩ (by simp) rfl)
              rw [d6, d9, d11]
              clear hd d6 d9 d11
              go_wp2_with (fail)
              refine ⟨rfl, rfl, Ch.refl _ _, gds_is rfl ?_⟩
              (conv => lhs; whnf)
            · intro vs W hW hd
              simp only [fill, List.setIfInBounds_toArray, List.set_cons_zero, List.set_cons_succ]
              have d6 := gds_at rfl (hd ⟨6, .guard⟩ (by simp) rfl)
              have d12 := gds_at rfl (hd ⟨12, .data⟩ (by simp) rfl)
              rw [d6, d12]
              clear hd d6 d12
              go_wp2_with (fail)
              refine ⟨rfl, rfl, Ch.refl _ _, gds_is rfl ?_⟩
              (conv => lhs; whnf)
            · intro vs W hW hd
              simp only [fill, List.setIfInBounds_toArray, List.set_cons_zero, List.set_cons_succ]
              have d6 := gds_at rfl (hd ⟨6, .guard⟩ (by simp) rfl)
              have d13 := gds_at rfl (hd ⟨13, .data⟩ (by simp) rfl)
              rw [d6, d13]
              clear hd d6 d13
              have hWW := (Ch.refl no w0).drew.same hW
              have q0 := cell_ch hWW p0
              have q1 := cell_ch hWW p1
              have q2 := cell_ch hWW p2
              go_wp2_with (fail)
              refine ⟨rfl, rfl, Ch.refl _ _, gds_is rfl ?_⟩
              (conv => lhs; whnf)
            · intro vs W hW hd
              simp only [fill, List.setIfInBounds_toArray, List.set_cons_zero, List.set_cons_succ]
              have d6 := gds_at rfl (hd ⟨6, .guard⟩ (by simp) rfl)
              have d8 := gds_at rfl (hd ⟨8, .data⟩ (by simp) rfl)
              have d14 := gds_at rfl (hd ⟨14, .data⟩ (by simp) rfl)
              rw [d6, d8, d14]
              clear hd d6 d8 d14
              have hlq := HLR.out W
              go_wp2_with (fail)
              refine ⟨rfl, rfl, Ch.refl _ _, gds_is rfl ?_⟩
              (conv => lhs; whnf)
            · intro vs W hW hd
              simp only [fill, List.setIfInBounds_toArray, List.set_cons_zero, List.set_cons_succ]
              have d3 := gds_at rfl (hd ⟨3, .guard⟩ (by simp) rfl)
              have d6 := gds_at rfl (hd ⟨6, .data⟩ (by simp) rfl)
              have d15 := gds_at rfl (hd ⟨15, .data⟩ (by simp) rfl)
              rw [d3, d6, d15]
              clear hd d3 d6 d15
              go_wp2_with (fail)
              refine ⟨rfl, rfl, Ch.refl _ _, gds_is rfl ?_⟩
              (conv => lhs; whnf)
          case fin4c =>
            intro vs W hW hd
            simp only [fill, List.setIfInBounds_toArray, List.set_cons_zero, List.set_cons_succ, List.take_succ_cons, List.take_zero, List.drop_succ_cons, List.drop_zero]
            have d0 := gds_at rfl (hd 0 (by omega))
            have d1 := gds_at rfl (hd 1 (by omega))
            have d2 := gds_at rfl (hd 2 (by omega))
            have d3 := gds_at rfl (hd 3 (by omega))
            have d4 := gds_at rfl (hd 4 (by omega))
            have d5 := gds_at rfl (hd 5 (by omega))
            have d6 := gds_at rfl (hd 6 (by omega))
            have d7 := gds_at rfl (hd 7 (by omega))
            have d8 := gds_at rfl (hd 8 (by omega))
            have d9 := gds_at rfl (hd 9 (by omega))
            have d10 := gds_at rfl (hd 10 (by omega))
            have d11 := gds_at rfl (hd 11 (by omega))
            have d12 := gds_at rfl (hd 12 (by omega))
            have d13 := gds_at rfl (hd 13 (by omega))
            have d14 := gds_at rfl (hd 14 (by omega))
            have d15 := gds_at rfl (hd 15 (by omega))
            have d16 := gds_at rfl (hd 16 (by omega))
            rw [d0, d1, d2, d3, d4, d5, d6, d7, d8, d9, d10, d11, d12, d13, d14, d15, d16]
            clear hd d0 d1 d2 d3 d4 d5 d6 d7 d8 d9 d10 d11 d12 d13 d14 d15 d16
            cases b with
            | false =>
              have HF : Hid (rightB t = false) := Lib.hid (right_no hlt (by rw [HS2.out]; rfl))
              go_wp2_with fail
              go_ret
              exact ⟨by rw [HF.out]; rfl, (HC0.out.then_ ((Ch.refl no w0).drew.same hW))⟩
            | true =>
              have HR2 : Hid (∀ j, j < m + 1 + 1 → okAt t j = true) := Lib.hid (fun j hj => by
                by_cases e : j = m + 1
                · subst e; rw [HS2.out]; rfl
                · exact HR.out j (by omega))
              go_wp2_with fail
              go_roundw
              case rel => exact ⟨m + 1 + 1, by omega, by go_num, HR2, Lib.hid (HC0.out.then_ ((Ch.refl no w0).drew.same hW))⟩
              case measure => simp [intOf]; omega
    · have HF : Hid (rightB t = decide (t.length ≤ 1000)) := Lib.hid (right_all (fun j hj => HR.out j (by omega)))
      by_cases h1000 : t.length ≤ 1000
      · have h1 : (t.length : Int) ≤ 1000 := by omega
        go_wp2_with fail
        go_ret
        exact ⟨by rw [HF.out, decide_eq_true h1000]; rfl, HC.out⟩
      · have h1 : ¬ (t.length : Int) ≤ 1000 := by omega
        go_wp2_with fail
        go_ret
        exact ⟨by rw [HF.out, decide_eq_false h1000]; rfl, HC.out⟩
end Go.Proofs.YtekeiieefkgopaaDoor.Uf
namespace Go.Proofs.YtekeiieefkgopaaDoor.Ug
open Go Go.RowKit Go.Proofs.YtekeiieefkgopaaDoor.Aa Go.Proofs.YtekeiieefkgopaaDoor.Vw Go.Proofs.YtekeiieefkgopaaDoor.Ma Go.Proofs.YtekeiieefkgopaaDoor.Mb Go.Proofs.YtekeiieefkgopaaDoor.No Go.Proofs.YtekeiieefkgopaaDoor.Nq Go.Proofs.YtekeiieefkgopaaDoor.Ba Go.Proofs.YtekeiieefkgopaaDoor.Bb Go.Proofs.YtekeiieefkgopaaDoor.Bg Go.Proofs.YtekeiieefkgopaaDoor.Bm Go.Proofs.YtekeiieefkgopaaDoor.Bn Go.Proofs.YtekeiieefkgopaaDoor.Bo Go.Proofs.YtekeiieefkgopaaDoor.Ua Go.Proofs.YtekeiieefkgopaaDoor.Ud
set_option linter.unusedVariables false
set_option linter.unusedSimpArgs false

theorem right_rise {t : List Fl} (h : rightB t = true) : Rise t := by
  refine RightTo.rises ⟨fun j hj _ => ?_, fun j hj _ => ?_⟩
  · have h1 := right_can h _ (List.getElem_mem hj)
    unfold canB at h1
    rw [Bool.and_eq_true] at h1
    exact of_decide_eq_true h1.2
  · have h1 := (right_at h).2 (j + 1) hj
    rw [okAt_succ hj, Bool.and_eq_true] at h1
    exact h1.2
/-- A tree that is looked at. -/
structure GoodT (t : List Fl) : Prop where
  right : rightB t = true
  len : t.length ≤ 12
  szs : Szs 600 t
theorem GoodT.rise {t : List Fl} (h : GoodT t) : Rise t := right_rise h.right
theorem ofF_text {t : List Fl} (h : rightB t = true) (p : ByteArray) : (ofF t p).text.size ≤ 65536 := by
  cases hg : getF t p with
  | none => rw [ofF_none hg]; exact Nat.zero_le _
  | some s =>
    rw [ofF_some hg]
    have hm := (get_mem (right_rise h) p s).1 hg
    have h1 := right_can h _ hm
    unfold canB at h1
    rw [Bool.and_eq_true] at h1
    exact of_decide_eq_true h1.2
theorem one_text {o a b : At} (ha : a.text.size ≤ 65536) (hb : b.text.size ≤ 65536) : (oneB o a b).1.text.size ≤ 65536 := by
  unfold oneB
  split
  · exact ha
  · split
    · exact hb
    · unfold bothB
      split
      · exact hb
      · split
        · exact ha
        · split
          · show (maxS a.text b.text).size ≤ 65536
            unfold maxS
            split
            · exact hb
            · exact ha
          · simp only; omega
theorem one_is {o a b : At} (ha : Shape a) (hb : Shape b) (h : (oneB o a b).2 = true) : (oneB o a b).1.is = true := by
  unfold oneB at h ⊢
  split at h
  · cases h
  · rename_i h1
    rw [if_neg h1]
    split at h
    · cases h
    · rename_i h2
      rw [if_neg h2]
      unfold bothB at h ⊢
      split
      · rename_i h3
        cases hbi : b.is with
        | true => rfl
        | false =>
          exfalso
          refine h1 (.inl ?_)
          obtain ⟨ta, ia⟩ := a
          obtain ⟨tb, ib⟩ := b
          simp only at h3 hbi
          subst h3; subst hbi
          rw [show ta = ByteArray.empty from ha rfl, show tb = ByteArray.empty from hb rfl]
      · rename_i h3
        split
        · cases hai : a.is with
          | true => rfl
          | false => exact absurd hai h3
        · split <;> rfl
theorem one_both {o a b : At} (ha : a.is = true) (hb : b.is = true) : (oneB o a b).1.is = true := by
  unfold oneB
  split
  · exact ha
  · split
    · exact hb
    · unfold bothB
      rw [if_neg (by simp [ha]), if_neg (by simp [hb])]
      split <;> rfl
theorem is_iff {t : List Fl} {p : ByteArray} : (ofF t p).is = true ↔ p ∈ t.map (·.path) := by
  cases hg : getF t p with
  | none => rw [ofF_none hg]; exact ⟨fun h => (by cases h), fun h => absurd h ((get_none p).1 hg)⟩
  | some s =>
    rw [ofF_some hg]
    refine ⟨fun _ => ?_, fun _ => rfl⟩
    cases Classical.em (p ∈ t.map (·.path)) with
    | inl h => exact h
    | inr h => rw [(get_none p).2 h] at hg; cases hg
section
variable {o a b : List Fl}
theorem trees_split (ha : GoodT a) (hb : GoodT b) : treesL o a b = ((pathsL a b).filterMap (fileAt o a b), (pathsL a b).filter (oddAt o a b)) :=
  trees_eq o a b (by have := ha.len; have := hb.len; omega)
theorem in_tree (ha : GoodT a) (hb : GoodT b) {p : ByteArray} (hp : p ∈ a.map (·.path) ∨ p ∈ b.map (·.path)) (hi : (oneB (ofF o p) (ofF a p) (ofF b p)).1.is = true) : (ofF (treesL o a b).1 p).is = true := by
  rw [is_iff, trees_split ha hb]
  have : fileAt o a b p = some ⟨p, (oneB (ofF o p) (ofF a p) (ofF b p)).1.text⟩ := by unfold fileAt; rw [if_pos hi]
  exact List.mem_map.2 ⟨_, List.mem_filterMap.2 ⟨p, (paths_mem a b p).2 hp, this⟩, rfl⟩
theorem tree_rise (ha : GoodT a) (hb : GoodT b) : Rise (treesL o a b).1 := by
  rw [trees_split ha hb]
  exact filterMap_rise (paths_rise a b ha.rise hb.rise)
theorem tree_len (ha : GoodT a) (hb : GoodT b) : (treesL o a b).1.length ≤ 24 := by
  rw [trees_split ha hb]
  have h1 := List.length_filterMap_le (fileAt o a b) (pathsL a b)
  have h2 := paths_len a b
  have := ha.len; have := hb.len
  simp only
  omega
theorem tree_right (ha : GoodT a) (hb : GoodT b) : rightB (treesL o a b).1 = true := by
  refine right_mk (by have := tree_len (o := o) ha hb; omega) (tree_rise ha hb) (fun f hf => ?_)
  rw [trees_split ha hb] at hf
  obtain ⟨p, hp, hfa⟩ := List.mem_filterMap.1 hf
  unfold fileAt at hfa
  split at hfa
  · have e := (Option.some.inj hfa).symm
    subst e
    unfold canB
    rw [Bool.and_eq_true]
    refine ⟨?_, decide_eq_true (one_text (ofF_text ha.right p) (ofF_text hb.right p))⟩
    have hc : ∀ t, rightB t = true → p ∈ t.map (·.path) → pathB p = true := fun t ht hm => by
      obtain ⟨f2, hf2, hfp⟩ := List.mem_map.1 hm
      have h1 := right_can ht f2 hf2
      unfold canB at h1
      rw [Bool.and_eq_true, hfp] at h1
      exact h1.1
    rcases (paths_mem a b p).1 hp with h | h
    · exact hc a ha.right h
    · exact hc b hb.right h
  · cases hfa
theorem both_in (ha : GoodT a) (hb : GoodT b) {p : ByteArray} (h1 : (ofF a p).is = true) (h2 : (ofF b p).is = true) : (ofF (treesL o a b).1 p).is = true :=
  in_tree ha hb (.inl (is_iff.1 h1)) (one_both h1 h2)
theorem odd_in (ha : GoodT a) (hb : GoodT b) {p : ByteArray} (hp : p ∈ (treesL o a b).2) : ((ofF a p).is = true ∨ (ofF b p).is = true) ∧ (ofF (treesL o a b).1 p).is = true := by
  rw [trees_split ha hb] at hp
  obtain ⟨h1, h2⟩ := List.mem_filter.1 hp
  have h3 := (paths_mem a b p).1 h1
  exact ⟨by rw [is_iff, is_iff]; exact h3, in_tree ha hb h3 (one_is (ofF_shape a p) (ofF_shape b p) h2)⟩
theorem odd_rise (ha : GoodT a) (hb : GoodT b) : RiseS (treesL o a b).2 := by
  rw [trees_split ha hb]
  exact List.Pairwise.filter _ (paths_rise a b ha.rise hb.rise)
theorem odd_len (ha : GoodT a) (hb : GoodT b) : (treesL o a b).2.length ≤ 24 := by
  rw [trees_split ha hb]
  have h1 := List.length_filter_le (oddAt o a b) (pathsL a b)
  have h2 := paths_len a b
  have := ha.len; have := hb.len
  simp only
  omega
end
end Go.Proofs.YtekeiieefkgopaaDoor.Ug
namespace Go.Proofs.YtekeiieefkgopaaDoor.Uh
open Go.RowKit Go.Proofs.YtekeiieefkgopaaDoor.Aa Go.Proofs.YtekeiieefkgopaaDoor.Vw Go.Proofs.YtekeiieefkgopaaDoor.Ma Go.Proofs.YtekeiieefkgopaaDoor.Mb Go.Proofs.YtekeiieefkgopaaDoor.Mi Go.Proofs.YtekeiieefkgopaaDoor.No Go.Proofs.YtekeiieefkgopaaDoor.Nq Go.Proofs.YtekeiieefkgopaaDoor.Ba Go.Proofs.YtekeiieefkgopaaDoor.Bb Go.Proofs.YtekeiieefkgopaaDoor.Bg Go.Proofs.YtekeiieefkgopaaDoor.Bh Go.Proofs.YtekeiieefkgopaaDoor.Bk Go.Proofs.YtekeiieefkgopaaDoor.Bm Go.Proofs.YtekeiieefkgopaaDoor.Bn Go.Proofs.YtekeiieefkgopaaDoor.Bo Go.Proofs.YtekeiieefkgopaaDoor.Bp Go.Proofs.YtekeiieefkgopaaDoor.Bq Go.Proofs.YtekeiieefkgopaaDoor.Ua Go.Proofs.YtekeiieefkgopaaDoor.Ud Go.Proofs.YtekeiieefkgopaaDoor.Ue Go.Proofs.YtekeiieefkgopaaDoor.Uf Go.Proofs.YtekeiieefkgopaaDoor.Ug
set_option linter.unusedVariables false
set_option linter.unusedSimpArgs false

set_option maxHeartbeats 1000000 in
theorem good2_of (A : Option Addr) (c : Nat) (t : List Fl) (w : World) (ht : file.Row w A c t) (hz : Szs 140737488355328 t) :
    Calls Tryd.prog 12 #[.slice A t.length c] w fun e w' => ∃ b, e = .returned (.bool b) ∧ (b = true → GoodT t) ∧ Ch no w w' := by
  have HT := Lib.hid ht; have HZ := Lib.hid hz
  clear ht hz
  go_enter Tryd.func12, Tryd.ntmps12
  go_wp2_with fail
  refine (Bo.few_of A c t w HT.out HZ.out).mono ?_
  rintro e w1 ⟨b, rfl, h, hc⟩
  have HC := Lib.hid hc; have HH := Lib.hid h
  clear hc h
  cases b with
  | false =>
    go_wp2_with fail
    go_ret
    exact ⟨_, rfl, by simp, HC.out⟩
  | true =>
    have HH3 := Lib.hid (HH.out rfl)
    clear HH
    go_wp2_with fail
    refine (refright_of A c t w1 (HT.out.ch HC.out) HZ.out).mono ?_
    rintro e w2 ⟨rfl, hc⟩
    have HC2 := Lib.hid (HC.out.same hc)
    obtain ⟨b, hb⟩ : ∃ b, rightB t = b := ⟨_, rfl⟩
    rw [hb]
    have HB := Lib.hid hb
    clear hc hb
    cases b with
    | false =>
      go_wp2_with fail
      go_ret
      exact ⟨_, rfl, by simp, HC2.out⟩
    | true =>
      go_wp2_with fail
      go_ret
      exact ⟨_, rfl, fun _ => ⟨HB.out, HH3.out.1, HH3.out.2⟩, HC2.out⟩
def True2 (w : World) (e : Ending) (w' : World) : Prop := e = .returned (.bool true) ∧ Ch no w w'
theorem szs_up {m n : Nat} {t : List Fl} (h : Szs m t) (hmn : m ≤ n) : Szs n t := fun f hf => by have := h f hf; omega
set_option maxRecDepth 100000 in
set_option maxHeartbeats 16000000 in
theorem right_law (Ao Aa Ab : Option Addr) (co ca cb : Nat) (o a b : List Fl) (w : World) (ho : file.Row w Ao co o) (ha : file.Row w Aa ca a) (hb : file.Row w Ab cb b) (zo : Szs 140737488355328 o) (za : Szs 140737488355328 a) (zb : Szs 140737488355328 b) :
    Calls Tryd.prog 3 #[.slice Ao o.length co, .slice Aa a.length ca, .slice Ab b.length cb] w (True2 w) := by
  have HO := Lib.hid ho; have HA := Lib.hid ha; have HB := Lib.hid hb; have ZO := Lib.hid zo; have ZA := Lib.hid za; have ZB := Lib.hid zb
  clear ho ha hb zo za zb
  go_enter Tryd.func3, Tryd.ntmps3
  go_wp2_with fail
  refine (Bq.awake_of w).mono ?_
  rintro e w1 ⟨rfl, hc⟩
  have C1 := Lib.hid hc
  clear hc
  go_wp2_with fail
  refine (good2_of Ao co o w1 (HO.out.ch C1.out) ZO.out).mono ?_
  rintro e w2 ⟨b1, rfl, g1, hc⟩
  have C2 := Lib.hid (C1.out.same hc); have G1 := Lib.hid g1
  clear hc g1
  go_wp2_with fail
  refine (good2_of Aa ca a w2 (HA.out.ch C2.out) ZA.out).mono ?_
  rintro e w3 ⟨b2, rfl, g2, hc⟩
  have C3 := Lib.hid (C2.out.same hc); have G2 := Lib.hid g2
  clear hc g2
  go_wp2_with fail
  refine (good2_of Ab cb b w3 (HB.out.ch C3.out) ZB.out).mono ?_
  rintro e w4 ⟨b3, rfl, g3, hc⟩
  have C4 := Lib.hid (C3.out.same hc); have G3 := Lib.hid g3
  clear hc g3
  cases b1 with
  | false =>
    go_wp2_with fail
    go_ret
    exact ⟨rfl, C4.out⟩
  | true =>
    cases b2 with
    | false =>
      go_wp2_with fail
      go_ret
      exact ⟨rfl, C4.out⟩
    | true =>
      cases b3 with
      | false =>
        go_wp2_with fail
        go_ret
        exact ⟨rfl, C4.out⟩
      | true =>
        have K1 := Lib.hid (G1.out rfl); have K2 := Lib.hid (G2.out rfl); have K3 := Lib.hid (G3.out rfl)
        clear G1 G2 G3
        go_wp2_with fail
        refine (trees_any o a b Ao Aa Ab co ca cb w4 (HO.out.ch C4.out) (HA.out.ch C4.out) (HB.out.ch C4.out) K1.out.rise K2.out.rise K3.out.rise (by have := K1.out.len; omega) (by have := K2.out.len; omega) (by have := K3.out.len; omega) (szs_up K1.out.szs (by omega)) (szs_up K2.out.szs (by omega)) (szs_up K3.out.szs (by omega))).mono ?_
        rintro e w5 ⟨A5, c5, D5, d5, rfl, h5, k5, hc⟩
        have C5 := Lib.hid (C4.out.same hc); have R5 := Lib.hid h5; have S5 := Lib.hid k5
        clear hc h5 k5
        have TR := Lib.hid (tree_right (o := o) K2.out K3.out)
        have TS := Lib.hid (tree_rise (o := o) K2.out K3.out)
        have TL := Lib.hid (tree_len (o := o) K2.out K3.out)
        have BI : Hid (∀ p, (ofF a p).is = true → (ofF b p).is = true → (ofF (treesL o a b).1 p).is = true) := Lib.hid (fun p => both_in K2.out K3.out)
        have OI : Hid (∀ p, p ∈ (treesL o a b).2 → ((ofF a p).is = true ∨ (ofF b p).is = true) ∧ (ofF (treesL o a b).1 p).is = true) := Lib.hid (fun p => odd_in K2.out K3.out)
        have OR := Lib.hid (odd_rise (o := o) K2.out K3.out)
        have TZ : Hid (∀ f ∈ (treesL o a b).1, f.path.size ≤ 1000000) := Lib.hid (fun f hf => by
          have h1 := right_can TR.out f hf
          unfold canB pathB at h1
          rw [Bool.and_eq_true, Bool.and_eq_true] at h1
          have := of_decide_eq_true h1.1.1
          omega)
        have hal : a.length ≤ 12 := K2.out.len
        have hdl := odd_len (o := o) K2.out K3.out
        obtain ⟨r, hrr⟩ : ∃ r, treesL o a b = r := ⟨_, rfl⟩
        rw [hrr] at R5 S5 TR TS TL BI OI OR TZ hdl ⊢
        clear hrr
        obtain ⟨T, D⟩ := r
        simp only at R5 S5 TR TS TL BI OI OR TZ hdl ⊢
        go_wp2_with fail
        have hrt := Uf.right_of A5 c5 T w5 R5.out TZ.out
        rw [TR.out] at hrt
        refine hrt.mono ?_
        rintro e w6 ⟨rfl, hc⟩
        have C6 := Lib.hid (C5.out.same hc); have R6 := Lib.hid (R5.out.ch hc); have S6 := Lib.hid (S5.out.ch hc)
        clear hc hrt R5 S5 TR TZ
        go_wp2_with fail
        go_loopw [13] (fun i wr => ∃ k : Nat, k ≤ a.length ∧ i = .int .i64 k ∧ Hid (Ch no w6 wr)) (fun i _ => a.length - (intOf i).toNat)
        case atStart => exact ⟨0, by omega, rfl, Lib.hid (Ch.refl _ _)⟩
        case round =>
          obtain ⟨k, hk, rfl, HC⟩ := hrel
          by_cases hlt : k < a.length
          · obtain ⟨ad, had, p0, _⟩ := file_at ((HA.out.ch C6.out).ch HC.out) k hlt
            subst had
            have HIN : Hid ((ofF a a[k].path).is = true) := Lib.hid (is_iff.2 (List.mem_map.2 ⟨_, List.getElem_mem hlt, rfl⟩))
            obtain ⟨p, hp⟩ : ∃ p, a[k].path = p := ⟨_, rfl⟩
            have HPE := Lib.hid hp
            rw [hp] at p0 HIN
            clear hp
            have HB2 := Lib.hid (BI.out p HIN.out)
            have hg := Bh.get_of Ab cb b p wr ((HB.out.ch C6.out).ch HC.out) K3.out.rise (by have := K3.out.len; omega)
            obtain ⟨⟨y1, i1⟩, hy1⟩ : ∃ y, ofF b p = y := ⟨_, rfl⟩
            rw [hy1] at hg HB2
            clear hy1
            simp only at hg HB2
            go_wp2_with fail
            refine hg.mono ?_
            rintro e w7 ⟨rfl, hc⟩
            have C7 := Lib.hid (HC.out.same hc)
            clear hc hg p0
            obtain ⟨ad', had, p0, _⟩ := file_at ((HA.out.ch C6.out).ch C7.out) k hlt
            cases had
            rw [HPE.out] at p0
            have hg := Bh.get_of A5 c5 T p w7 (R6.out.ch C7.out) TS.out (by have := TL.out; omega)
            obtain ⟨⟨y2, i2⟩, hy2⟩ : ∃ y, ofF T p = y := ⟨_, rfl⟩
            rw [hy2] at hg HB2
            clear hy2
            simp only at hg HB2
            go_wp2_with fail
            refine hg.mono ?_
            rintro e w8 ⟨rfl, hc⟩
            have C8 := Lib.hid (C7.out.same hc)
            clear hc hg p0
            cases i1 with
            | false =>
              go_wp2_with fail
              go_roundw
              case rel => exact ⟨k + 1, by omega, by go_num, C8⟩
              case measure => simp [intOf]; omega
            | true =>
              obtain rfl : i2 = true := HB2.out rfl
              go_wp2_with fail
              go_roundw
              case rel => exact ⟨k + 1, by omega, by go_num, C8⟩
              case measure => simp [intOf]; omega
          · obtain rfl : k = a.length := by omega
            obtain ⟨w9, hw9⟩ : ∃ w9, wr = w9 := ⟨_, rfl⟩
            rw [hw9] at HC ⊢
            clear hw9
            have C9 := Lib.hid (C6.out.same HC.out); have R9 := Lib.hid (R6.out.ch HC.out); have S9 := Lib.hid (S6.out.ch HC.out)
            clear HC C6 R6 S6
            go_wp2_with fail
            go_loopw [18] (fun i wr => ∃ k : Nat, k ≤ D.length ∧ i = .int .i64 k ∧ Hid (Ch no w9 wr)) (fun i _ => D.length - (intOf i).toNat)
            case atStart => exact ⟨0, by omega, rfl, Lib.hid (Ch.refl _ _)⟩
            case round =>
              obtain ⟨k, hk, rfl, HC⟩ := hrel
              by_cases hlt : k < D.length
              · obtain ⟨add, had, p0⟩ := (S9.out.ch HC.out).flat_at k hlt
                subst had
                have HOK := Lib.hid (OI.out D[k] (List.getElem_mem hlt))
                obtain ⟨p, hp⟩ : ∃ p, D[k] = p := ⟨_, rfl⟩
                have HPE := Lib.hid hp
                replace p0 : wr.cell? (add.add k) = some (.string p) := p0.trans (congrArg (fun z => some (Value.string z)) hp)
                rw [hp] at HOK
                clear hp
                have HI1 := Lib.hid HOK.out.1; have HI2 := Lib.hid HOK.out.2
                clear HOK
                have hg := Bh.get_of Aa ca a p wr ((HA.out.ch C9.out).ch HC.out) K2.out.rise (by omega)
                obtain ⟨⟨y1, i1⟩, hy1⟩ : ∃ y, ofF a p = y := ⟨_, rfl⟩
                rw [hy1] at hg HI1
                clear hy1
                simp only at hg HI1
                go_wp2_with fail
                refine hg.mono ?_
                rintro e w10 ⟨rfl, hc⟩
                have C10 := Lib.hid (HC.out.same hc)
                replace p0 := cell_ch hc p0
                clear hc hg
                have hg := Bh.get_of Ab cb b p w10 ((HB.out.ch C9.out).ch C10.out) K3.out.rise (by have := K3.out.len; omega)
                obtain ⟨⟨y2, i2⟩, hy2⟩ : ∃ y, ofF b p = y := ⟨_, rfl⟩
                rw [hy2] at hg HI1
                clear hy2
                simp only at hg HI1
                go_wp2_with fail
                refine hg.mono ?_
                rintro e w11 ⟨rfl, hc⟩
                have C11 := Lib.hid (C10.out.same hc)
                replace p0 := cell_ch hc p0
                clear hc hg
                have hg := Bh.get_of A5 c5 T p w11 (R9.out.ch C11.out) TS.out (by have := TL.out; omega)
                obtain ⟨⟨y3, i3⟩, hy3⟩ : ∃ y, ofF T p = y := ⟨_, rfl⟩
                rw [hy3] at hg HI2
                clear hy3
                simp only at hg HI2
                go_wp2_with fail
                refine hg.mono ?_
                rintro e w12 ⟨rfl, hc⟩
                have C12 := Lib.hid (C11.out.same hc)
                replace p0 := cell_ch hc p0
                clear hc hg
                obtain rfl : i3 = true := HI2.out
                rcases Nat.eq_zero_or_pos k with hk0 | hk0
                · have hpos : ¬ (0 : Int) < (k : Int) := by omega
                  have hpos2 : ¬ 0 < k := by omega
                  clear hk0
                  cases i1 with
                  | true =>
                    go_wp2_with fail
                    go_quiet (fail)
                    go_wp2_with fail
                    go_roundw
                    case rel => exact ⟨k + 1, by omega, by go_num, Lib.hid (C12.out.drewN _)⟩
                    case measure => simp [intOf]; omega
                  | false =>
                    obtain rfl : i2 = true := by rcases HI1.out with h | h; cases h; exact h
                    go_wp2_with fail
                    go_quiet (fail)
                    go_wp2_with fail
                    go_roundw
                    case rel => exact ⟨k + 1, by omega, by go_num, Lib.hid (C12.out.drewN _)⟩
                    case measure => simp [intOf]; omega
                · obtain ⟨add2, had2, p9⟩ := (S9.out.ch C12.out).flat_at (k - 1) (by omega)
                  cases had2
                  have HLE : Hid (less (D[k - 1]'(by omega)) p = true) := Lib.hid (by
                    have := (List.pairwise_iff_getElem.1 OR.out) (k - 1) k (by omega) hlt (by omega)
                    rwa [HPE.out] at this)
                  obtain ⟨pp, hpp⟩ : ∃ pp, D[k - 1]'(by omega) = pp := ⟨_, rfl⟩
                  replace p9 : w12.cell? (add.add (k - 1)) = some (.string pp) := p9.trans (congrArg (fun z => some (Value.string z)) hpp)
                  rw [hpp] at HLE
                  clear hpp
                  have hlr : ∀ W : World, (binOp .leq 9 (.string p) (.string pp)).run Tryd.prog W = .ok (.bool false) W := fun W => by
                    have h := Uf.leq_run p pp W
                    rw [HLE.out] at h
                    exact h
                  have hpos : (0 : Int) < (k : Int) := by omega
                  have hlt3 : (k : Int) < (D.length : Int) := by omega
                  have hmd3 : (k : Int) - 1 < (D.length : Int) := by omega
                  have hm0 : (0 : Int) ≤ (k : Int) - 1 := by omega
                  have hmd : k - 1 < D.length := by omega
                  cases i1 with
                  | true =>
                    go_wp2_with fail
                    go_quiet (fail)
                    go_wp2_with fail
                    go_roundw
                    case rel => exact ⟨k + 1, by omega, by go_num, Lib.hid (C12.out.drewN _)⟩
                    case measure => simp [intOf]; omega
                  | false =>
                    obtain rfl : i2 = true := by rcases HI1.out with h | h; cases h; exact h
                    go_wp2_with fail
                    go_quiet (fail)
                    go_wp2_with fail
                    go_roundw
                    case rel => exact ⟨k + 1, by omega, by go_num, Lib.hid (C12.out.drewN _)⟩
                    case measure => simp [intOf]; omega
              · go_wp2_with fail
                go_ret
                exact ⟨rfl, C9.out.same HC.out⟩
end Go.Proofs.YtekeiieefkgopaaDoor.Uh
