/- All parents of what is in are in, a level below it: walked. -/
import Derived.Test.YtlmcbmgdhpoedaaEb
namespace Go.Proofs.Ytlmcbmgdhpoedaa.Ec
open Go Go.RowKit Go.Proofs.Ytlmcbmgdhpoedaa.Aa Go.Proofs.Ytlmcbmgdhpoedaa.Vw Go.Proofs.Ytlmcbmgdhpoedaa.Mr Go.Proofs.Ytlmcbmgdhpoedaa.Mt Go.Proofs.Ytlmcbmgdhpoedaa.Da Go.Proofs.Ytlmcbmgdhpoedaa.Db Go.Proofs.Ytlmcbmgdhpoedaa.Dc Go.Proofs.Ytlmcbmgdhpoedaa.De Go.Proofs.Ytlmcbmgdhpoedaa.Di Go.Proofs.Ytlmcbmgdhpoedaa.Dk Go.Proofs.Ytlmcbmgdhpoedaa.Dl Go.Proofs.Ytlmcbmgdhpoedaa.Dn Go.Proofs.Ytlmcbmgdhpoedaa.Dr Go.Proofs.Ytlmcbmgdhpoedaa.Ds Go.Proofs.Ytlmcbmgdhpoedaa.Dt Go.Proofs.Ytlmcbmgdhpoedaa.Du Go.Proofs.Ytlmcbmgdhpoedaa.Dv Go.Proofs.Ytlmcbmgdhpoedaa.Ea Go.Proofs.Ytlmcbmgdhpoedaa.Eb
attribute [local go_sem] mx2 mxOp
set_option linter.unusedVariables false
set_option linter.unusedSimpArgs false

theorem level_in {d : Gr} {x : Nm} (h : x ∈ d.ids) : d.level x = (d.lev x : Nat) := by unfold Gr.level; rw [has_iff.2 h]; rfl
/-- Of a parent of one that is in. -/
theorem par_facts {d : Gr} {n : Nat} (hf : Fine d n) (hw : Wf d) {x p : Nm} (hp : p ∈ d.par x) :
    d.has p = true ∧ d.level p = (d.lev p : Nat) ∧ aboveB d p x = true ∧ aboveB d x p = false := by
  obtain ⟨h1, h2, h3, _⟩ := par_in hf hw hp
  refine ⟨has_iff.2 h2, level_in h2, aboveB_iff.2 ⟨has_iff.2 h2, has_iff.2 h1, .step hp (.refl _)⟩, ?_⟩
  cases hb : aboveB d x p with
  | false => rfl
  | true =>
    have := (reach_lev hf hw (aboveB_iff.1 hb).2.2).1
    omega
/-- Of one that waits. -/
theorem wait_facts {d : Gr} {n : Nat} (hf : Fine d n) {y : Nm} (hy : y ∈ d.wids) : d.has y = false ∧ d.level y = -1 ∧ d.parents y = [] := by
  have h0 : y ∉ d.ids := fun h => hf.apart y h hy
  have h1 : d.has y = false := by unfold Gr.has; exact decide_eq_false h0
  refine ⟨h1, by unfold Gr.level; rw [h1]; rfl, ?_⟩
  unfold Gr.parents Gr.par
  rw [get_none.2 h0]; rfl
theorem lev_of_top {d : Gr} {n : Nat} (hf : Fine d n) (hw : Wf d) {x : Nm} (hx : x ∈ d.ids) : d.lev x = d.top (d.par x) := by
  obtain ⟨e, he, rfl⟩ := List.mem_map.1 hx
  obtain ⟨h1, h2⟩ := par_at hf he
  rw [h1, h2]
  exact (hw e he).1
theorem all_length (d : Gr) : d.allIds.length = d.ins.length := by unfold Gr.allIds; rw [srt_length]; unfold Gr.ids; simp
/-- Between two rounds. -/
structure CL (w0 wr : World) (B : Nat) (D : Gr) : Prop where
  dag : DagV wr B D
  ch : Ch no w0 wr
set_option maxRecDepth 100000 in
set_option maxHeartbeats 8000000 in
theorem closed_of (A : Option Addr) (c : Nat) (l : List Nd) (w : World) (h : nd.Row w A c l) :
    Calls Try.prog 6 #[.slice A l.length c] w fun e w' => e = .returned (.bool true) ∧ Ch no w w' := by
  have hlx := h.len
  have HX := Lib.hid h; clear h
  go_enter Try.func6, Try.ntmps6
  go_wp2_with fail
  refine (awake_of w).mono ?_
  rintro e w1 ⟨rfl, hc1⟩
  have HC1 := Lib.hid hc1; clear hc1
  go_wp2_with fail
  have hn := few_of A c l w1 (HX.out.ch HC1.out)
  obtain ⟨f1, hf1⟩ : ∃ f, few l = f := ⟨_, rfl⟩
  rw [hf1] at hn
  refine hn.mono ?_
  rintro e w' ⟨rfl, hw⟩
  subst hw
  have HF1 := Lib.hid hf1
  clear hn hf1
  cases f1 with
  | false =>
    go_wp2_with fail
    go_ret
    exact ⟨rfl, HC1.out⟩
  | true =>
    have HFI : Hid (Fine (graph l) 14) := Lib.hid (by
      have h1 := graph_fine HF1.out l.length (Nat.le_refl _)
      rw [List.take_length] at h1
      exact h1.mono (few_len HF1.out))
    have HWF : Hid (Wf (graph l)) := Lib.hid (by
      have h1 := graph_wf l l.length
      rwa [List.take_length] at h1)
    obtain ⟨D, hD⟩ : ∃ D, graph l = D := ⟨_, rfl⟩
    rw [hD] at HFI HWF
    go_wp2_with fail
    have ha := added_of A c l w1 (HX.out.ch HC1.out) HF1.out
    rw [hD] at ha
    refine ha.mono ?_
    rintro e w3 ⟨B, rfl, hd3, hc3, hB⟩
    have HD3 := Lib.hid hd3; have HC3 := Lib.hid (HC1.out.then_ hc3)
    clear hd3 hc3 hB ha hD
    go_wp2_with fail
    refine (ids_of B D 14 w3 HD3.out HFI.out (by omega)).mono ?_
    rintro e w4 ⟨v4, rfl, ho4, hc4⟩
    obtain ⟨A4, c4, rfl⟩ := own_shape ho4
    have HR4 := Lib.hid (row_of_own ho4); have HD4 := Lib.hid (HD3.out.ch hc4); have HC4 := Lib.hid (HC3.out.then_ hc4)
    clear ho4 hc4 HD3 HC3
    have HIN : Hid (∀ x ∈ D.allIds, x ∈ D.ids) := Lib.hid (fun x hx => mem_srt.1 hx)
    have HML := Lib.hid (all_length D)
    have hli := HR4.out.len
    obtain ⟨is, his⟩ : ∃ is, D.allIds = is := ⟨_, rfl⟩
    rw [his] at HR4 HIN HML hli ⊢
    clear his
    go_wp2_with fail
    go_loopw [7] (fun i wr => ∃ k : Nat, k ≤ is.length ∧ i = .int .i64 k ∧ Hid (CL w4 wr B D)) (fun i _ => is.length - (intOf i).toNat)
    case atStart => exact ⟨0, by omega, rfl, Lib.hid ⟨HD4.out, Ch.refl _ _⟩⟩
    case round =>
      obtain ⟨k, hk, rfl, HCR⟩ := hrel
      by_cases hlt : k < is.length
      · obtain ⟨adi, rfl, pi⟩ := (HR4.out.ch HCR.out.ch).flat_at k hlt
        have HXI : Hid (is[k] ∈ D.ids) := Lib.hid (HIN.out _ (List.getElem_mem _))
        obtain ⟨x, hx⟩ : ∃ x, is[k] = x := ⟨_, rfl⟩
        have HXK := Lib.hid hx
        rw [hx] at pi HXI
        clear hx
        go_wp2_with fail
        refine (parents_of B D 14 x wr HCR.out.dag HFI.out (by omega)).mono ?_
        rintro e w6 ⟨v6, rfl, ho6, hc6⟩
        obtain ⟨A6, c6, rfl⟩ := own_shape ho6
        have HR6 := Lib.hid (row_of_own ho6)
        have HI0 : Hid (CL w6 w6 B D) := Lib.hid ⟨HCR.out.dag.ch hc6, Ch.refl _ _⟩
        have HC6 := Lib.hid (HCR.out.ch.then_ hc6)
        have HR46 := Lib.hid (HR4.out.ch HC6.out)
        clear ho6 hc6 pi
        have HPF : Hid (∀ p ∈ D.parents x, D.has p = true ∧ D.level p = (D.lev p : Nat) ∧ aboveB D p x = true ∧ aboveB D x p = false ∧ D.lev p < D.lev x) := Lib.hid (fun p hp => by
          obtain ⟨h1, h2, h3, h4⟩ := par_facts HFI.out HWF.out hp
          exact ⟨h1, h2, h3, h4, (par_in HFI.out HWF.out hp).2.2.1⟩)
        have HLX : Hid (D.level x = (D.lev x : Nat)) := Lib.hid (level_in HXI.out)
        have HTX : Hid (D.lev x = D.top (D.parents x)) := Lib.hid (lev_of_top HFI.out HWF.out HXI.out)
        have hlx2 : D.lev x ≤ 14 := by have := lev_le HFI.out x; have := HFI.out.many; omega
        have HTL : Hid (∀ m, D.top ((D.parents x).take m) ≤ 15) := Lib.hid (fun m => by
          unfold Gr.top
          refine foldl_max_le _ (fun p hp => ?_) 0 (by omega)
          have h1 := lev_le HFI.out p
          have h2 := HFI.out.many
          omega)
        obtain ⟨ps, hps⟩ : ∃ ps, D.parents x = ps := ⟨_, rfl⟩
        rw [hps] at HR6 HPF HTX HTL ⊢
        clear hps
        obtain ⟨lx, hlxe⟩ : ∃ lx, D.lev x = lx := ⟨_, rfl⟩
        rw [hlxe] at HLX HTX hlx2 HPF
        clear hlxe
        have hlp := HR6.out.len
        go_wp2_with fail
        go_loopw [9, 10] (fun v q wz => ∃ m : Nat, m ≤ ps.length ∧ q = .int .i64 m ∧ v = .int .i64 ((D.top (ps.take m) : Nat) - 1) ∧ Hid (CL w6 wz B D)) (fun _ q _ => ps.length - (intOf q).toNat)
        case atStart => exact ⟨0, by omega, rfl, rfl, HI0⟩
        case round =>
          clear HI0
          obtain ⟨m, hm, rfl, rfl, HI⟩ := hrel
          have htl := HTL.out m
          by_cases hlm : m < ps.length
          · obtain ⟨adp, rfl, p1⟩ := (HR6.out.ch HI.out.ch).flat_at m hlm
            obtain ⟨adi', hadi, p0⟩ := (HR46.out.ch HI.out.ch).flat_at k hlt
            cases hadi
            have HTN := Lib.hid (Dd.top_next D ps m hlm)
            have HP := Lib.hid (HPF.out _ (List.getElem_mem (h := hlm)))
            obtain ⟨p, hp⟩ : ∃ p, ps[m] = p := ⟨_, rfl⟩
            replace p1 : wr.cell? (adp.add m) = some (.string p) := p1.trans (congrArg (fun z => some (Value.string z)) hp)
            replace p0 : wr.cell? (adi.add k) = some (.string x) := p0.trans (congrArg (fun z => some (Value.string z)) HXK.out)
            rw [hp] at HP HTN
            clear hp
            obtain ⟨lp, hlpe⟩ : ∃ lp, D.lev p = lp := ⟨_, rfl⟩
            rw [hlpe] at HP HTN
            clear hlpe
            have hlt2 : lp < lx := HP.out.2.2.2.2
            have HP : Hid (D.has p = true ∧ D.level p = (lp : Nat) ∧ aboveB D p x = true ∧ aboveB D x p = false) := Lib.hid ⟨HP.out.1, HP.out.2.1, HP.out.2.2.1, HP.out.2.2.2.1⟩
            obtain ⟨tp, htp⟩ : ∃ tp, D.top (ps.take m) = tp := ⟨_, rfl⟩
            rw [htp] at htl HTN ⊢
            clear htp
            have HGE : Hid (decide (lx ≤ lp) = false) := Lib.hid (decide_eq_false (by omega))
            go_upto_region 17 with (fail)
            refine wp_region_tail9 (G := gds [Gd.is (ptr B), Gd.is (.slice (some adp) ps.length c6), Gd.is (.int .i64 ((m : Nat) : Int)), Gd.is (.pointer (some (adp.add m))), Gd.is (.string p), Gd.is (.bool true), Gd.is (.bool false), Gd.is (.bool false), Gd.is (ptr B), Gd.is (.slice (some adp) ps.length c6), Gd.is (.int .i64 ((m : Nat) : Int)), Gd.is (.pointer (some (adp.add m))), Gd.is (.string p), Gd.is (.int .i64 (lp : Nat)), Gd.is (ptr B), Gd.is (.slice (some adi) is.length c4), Gd.is (.int .i64 ((k : Nat) : Int)), Gd.is (.pointer (some (adi.add k))), Gd.is (.string x), Gd.is (.int .i64 (lx : Nat)), Gd.is (.bool false), Gd.is (.bool false), Gd.is (.bool false), Gd.is (ptr B), Gd.is (.slice (some adp) ps.length c6), Gd.is (.int .i64 ((m : Nat) : Int)), Gd.is (.pointer (some (adp.add m))), Gd.is (.string p), Gd.is (.slice (some adi) is.length c4), Gd.is (.int .i64 ((k : Nat) : Int)), Gd.is (.pointer (some (adi.add k))), Gd.is (.string x), Gd.is (.bool true), Gd.is (.bool false), Gd.is (.bool false), Gd.is (.bool false), Gd.is (ptr B), Gd.is (.slice (some adi) is.length c4), Gd.is (.int .i64 ((k : Nat) : Int)), Gd.is (.pointer (some (adi.add k))), Gd.is (.string x), Gd.is (.slice (some adp) ps.length c6), Gd.is (.int .i64 ((m : Nat) : Int)), Gd.is (.pointer (some (adp.add m))), Gd.is (.string p), Gd.is (.bool false)]) 46 (by kernel_rfl) (by kernel_rfl) rfl (by kernel_rfl) gds_st ?obl17 ?fin17
            case obl17 =>
              simp only [Obls, and_true, List.take_succ_cons, List.take_zero]
              refine ⟨?_, ?_, ?_, ?_, ?_, ?_, ?_, ?_, ?_, ?_, ?_, ?_, ?_, ?_, ?_, ?_, ?_, ?_, ?_, ?_, ?_, ?_, ?_, ?_, ?_, ?_, ?_, ?_, ?_, ?_, ?_, ?_, ?_, ?_, ?_, ?_, ?_, ?_, ?_, ?_, ?_, ?_, ?_, ?_, ?_, ?_⟩
              · intro vs W hW hd
                simp only [fill, List.setIfInBounds_toArray, List.set_cons_zero, List.set_cons_succ]
                clear hd
                go_wp2_with (fail)
                refine ⟨rfl, rfl, Ch.refl _ _, gds_is rfl ?_⟩
                (conv => lhs; whnf)
              · intro vs W hW hd
                simp only [fill, List.setIfInBounds_toArray, List.set_cons_zero, List.set_cons_succ]
                clear hd
                go_wp2_with (fail)
                refine ⟨rfl, rfl, Ch.refl _ _, gds_is rfl ?_⟩
                (conv => lhs; whnf)
              · intro vs W hW hd
                simp only [fill, List.setIfInBounds_toArray, List.set_cons_zero, List.set_cons_succ]
                clear hd
                go_wp2_with (fail)
                refine ⟨rfl, rfl, Ch.refl _ _, gds_is rfl ?_⟩
                (conv => lhs; whnf)
              · intro vs W hW hd
                simp only [fill, List.setIfInBounds_toArray, List.set_cons_zero, List.set_cons_succ]
                have d1 := gds_at rfl (hd ⟨1, .data⟩ (by simp) rfl)
                have d2 := gds_at rfl (hd ⟨2, .data⟩ (by simp) rfl)
                rw [d1, d2]
                clear hd d1 d2
                go_wp2_with (fail)
                refine ⟨rfl, rfl, Ch.refl _ _, gds_is rfl ?_⟩
                (conv => lhs; whnf)
              · intro vs W hW hd
                simp only [fill, List.setIfInBounds_toArray, List.set_cons_zero, List.set_cons_succ]
                have d3 := gds_at rfl (hd ⟨3, .data⟩ (by simp) rfl)
                rw [d3]
                clear hd d3
                have hWW := (Ch.refl no wr).drew.same hW
                have q0 := cell_ch hWW p0
                have q1 := cell_ch hWW p1
                go_wp2_with (fail)
                refine ⟨rfl, rfl, Ch.refl _ _, gds_is rfl ?_⟩
                (conv => lhs; whnf)
              · intro vs W hW hd
                simp only [fill, List.setIfInBounds_toArray, List.set_cons_zero, List.set_cons_succ]
                have d0 := gds_at rfl (hd ⟨0, .data⟩ (by simp) rfl)
                have d4 := gds_at rfl (hd ⟨4, .data⟩ (by simp) rfl)
                rw [d0, d4]
                clear hd d0 d4
                have hWW := (Ch.refl no wr).drew.same hW
                have q0 := cell_ch hWW p0
                have q1 := cell_ch hWW p1
                go_wp2_with (have hs := has_of B D p W (HI.out.dag.ch ((Ch.refl no wr).drew.same hW)); rw [HP.out.1] at hs; refine hs.mono ?_; rintro e w2 ⟨rfl, hw⟩; subst hw)
                exact ⟨rfl, rfl, Ch.refl _ _, gds_is rfl rfl⟩
              · intro vs W hW hd
                simp only [fill, List.setIfInBounds_toArray, List.set_cons_zero, List.set_cons_succ]
                have d5 := gds_at rfl (hd ⟨5, .data⟩ (by simp) rfl)
                rw [d5]
                clear hd d5
                go_wp2_with (fail)
                refine ⟨rfl, rfl, Ch.refl _ _, gds_is rfl ?_⟩
                (conv => lhs; whnf)
              · intro vs W hW hd
                simp only [fill, List.setIfInBounds_toArray, List.set_cons_zero, List.set_cons_succ]
                have d6 := gds_at rfl (hd ⟨6, .data⟩ (by simp) rfl)
                rw [d6]
                clear hd d6
                go_wp2_with (fail)
                refine ⟨rfl, rfl, Ch.refl _ _, gds_is rfl ?_⟩
                (conv => lhs; whnf)
              · intro vs W hW hd
                simp only [fill, List.setIfInBounds_toArray, List.set_cons_zero, List.set_cons_succ]
                have d7 := gds_at rfl (hd ⟨7, .guard⟩ (by simp) rfl)
                rw [d7]
                clear hd d7
                go_wp2_with (fail)
                refine ⟨rfl, rfl, Ch.refl _ _, gds_is rfl ?_⟩
                (conv => lhs; whnf)
              · intro vs W hW hd
                simp only [fill, List.setIfInBounds_toArray, List.set_cons_zero, List.set_cons_succ]
                have d7 := gds_at rfl (hd ⟨7, .guard⟩ (by simp) rfl)
                rw [d7]
                clear hd d7
                go_wp2_with (fail)
                refine ⟨rfl, rfl, Ch.refl _ _, gds_is rfl ?_⟩
                (conv => lhs; whnf)
              · intro vs W hW hd
                simp only [fill, List.setIfInBounds_toArray, List.set_cons_zero, List.set_cons_succ]
                have d7 := gds_at rfl (hd ⟨7, .guard⟩ (by simp) rfl)
                rw [d7]
                clear hd d7
                go_wp2_with (fail)
                refine ⟨rfl, rfl, Ch.refl _ _, gds_is rfl ?_⟩
                (conv => lhs; whnf)
              · intro vs W hW hd
                simp only [fill, List.setIfInBounds_toArray, List.set_cons_zero, List.set_cons_succ]
                have d7 := gds_at rfl (hd ⟨7, .guard⟩ (by simp) rfl)
                have d9 := gds_at rfl (hd ⟨9, .data⟩ (by simp) rfl)
                have d10 := gds_at rfl (hd ⟨10, .data⟩ (by simp) rfl)
                rw [d7, d9, d10]
                clear hd d7 d9 d10
                go_wp2_with (fail)
                refine ⟨rfl, rfl, Ch.refl _ _, gds_is rfl ?_⟩
                (conv => lhs; whnf)
              · intro vs W hW hd
                simp only [fill, List.setIfInBounds_toArray, List.set_cons_zero, List.set_cons_succ]
                have d7 := gds_at rfl (hd ⟨7, .guard⟩ (by simp) rfl)
                have d11 := gds_at rfl (hd ⟨11, .data⟩ (by simp) rfl)
                rw [d7, d11]
                clear hd d7 d11
                have hWW := (Ch.refl no wr).drew.same hW
                have q0 := cell_ch hWW p0
                have q1 := cell_ch hWW p1
                go_wp2_with (fail)
                refine ⟨rfl, rfl, Ch.refl _ _, gds_is rfl ?_⟩
                (conv => lhs; whnf)
              · intro vs W hW hd
                simp only [fill, List.setIfInBounds_toArray, List.set_cons_zero, List.set_cons_succ]
                have d7 := gds_at rfl (hd ⟨7, .guard⟩ (by simp) rfl)
                have d8 := gds_at rfl (hd ⟨8, .data⟩ (by simp) rfl)
                have d12 := gds_at rfl (hd ⟨12, .data⟩ (by simp) rfl)
                rw [d7, d8, d12]
                clear hd d7 d8 d12
                have hWW := (Ch.refl no wr).drew.same hW
                have q0 := cell_ch hWW p0
                have q1 := cell_ch hWW p1
                go_wp2_with (have hs := level_of B D p W (HI.out.dag.ch ((Ch.refl no wr).drew.same hW)); rw [HP.out.2.1] at hs; refine hs.mono ?_; rintro e w2 ⟨rfl, hw⟩; subst hw)
                exact ⟨rfl, rfl, Ch.refl _ _, gds_is rfl rfl⟩
              · intro vs W hW hd
                simp only [fill, List.setIfInBounds_toArray, List.set_cons_zero, List.set_cons_succ]
                have d7 := gds_at rfl (hd ⟨7, .guard⟩ (by simp) rfl)
                rw [d7]
                clear hd d7
                go_wp2_with (fail)
                refine ⟨rfl, rfl, Ch.refl _ _, gds_is rfl ?_⟩
                (conv => lhs; whnf)
              · intro vs W hW hd
                simp only [fill, List.setIfInBounds_toArray, List.set_cons_zero, List.set_cons_succ]
                have d7 := gds_at rfl (hd ⟨7, .guard⟩ (by simp) rfl)
                rw [d7]
                clear hd d7
                go_wp2_with (fail)
                refine ⟨rfl, rfl, Ch.refl _ _, gds_is rfl ?_⟩
                (conv => lhs; whnf)
              · intro vs W hW hd
                simp only [fill, List.setIfInBounds_toArray, List.set_cons_zero, List.set_cons_succ]
                have d7 := gds_at rfl (hd ⟨7, .guard⟩ (by simp) rfl)
                rw [d7]
                clear hd d7
                go_wp2_with (fail)
                refine ⟨rfl, rfl, Ch.refl _ _, gds_is rfl ?_⟩
                (conv => lhs; whnf)
              · intro vs W hW hd
                simp only [fill, List.setIfInBounds_toArray, List.set_cons_zero, List.set_cons_succ]
                have d7 := gds_at rfl (hd ⟨7, .guard⟩ (by simp) rfl)
                have d15 := gds_at rfl (hd ⟨15, .data⟩ (by simp) rfl)
                have d16 := gds_at rfl (hd ⟨16, .data⟩ (by simp) rfl)
                rw [d7, d15, d16]
                clear hd d7 d15 d16
                go_wp2_with (fail)
                refine ⟨rfl, rfl, Ch.refl _ _, gds_is rfl ?_⟩
                (conv => lhs; whnf)
              · intro vs W hW hd
                simp only [fill, List.setIfInBounds_toArray, List.set_cons_zero, List.set_cons_succ]
                have d7 := gds_at rfl (hd ⟨7, .guard⟩ (by simp) rfl)
                have d17 := gds_at rfl (hd ⟨17, .data⟩ (by simp) rfl)
                rw [d7, d17]
                clear hd d7 d17
                have hWW := (Ch.refl no wr).drew.same hW
                have q0 := cell_ch hWW p0
                have q1 := cell_ch hWW p1
                go_wp2_with (fail)
                refine ⟨rfl, rfl, Ch.refl _ _, gds_is rfl ?_⟩
                (conv => lhs; whnf)
              · intro vs W hW hd
                simp only [fill, List.setIfInBounds_toArray, List.set_cons_zero, List.set_cons_succ]
                have d7 := gds_at rfl (hd ⟨7, .guard⟩ (by simp) rfl)
                have d14 := gds_at rfl (hd ⟨14, .data⟩ (by simp) rfl)
                have d18 := gds_at rfl (hd ⟨18, .data⟩ (by simp) rfl)
                rw [d7, d14, d18]
                clear hd d7 d14 d18
                have hWW := (Ch.refl no wr).drew.same hW
                have q0 := cell_ch hWW p0
                have q1 := cell_ch hWW p1
                go_wp2_with (have hs := level_of B D x W (HI.out.dag.ch ((Ch.refl no wr).drew.same hW)); rw [HLX.out] at hs; refine hs.mono ?_; rintro e w2 ⟨rfl, hw⟩; subst hw)
                exact ⟨rfl, rfl, Ch.refl _ _, gds_is rfl rfl⟩
              · intro vs W hW hd
                simp only [fill, List.setIfInBounds_toArray, List.set_cons_zero, List.set_cons_succ]
                have d7 := gds_at rfl (hd ⟨7, .guard⟩ (by simp) rfl)
                have d13 := gds_at rfl (hd ⟨13, .data⟩ (by simp) rfl)
                have d19 := gds_at rfl (hd ⟨19, .data⟩ (by simp) rfl)
                rw [d7, d13, d19]
                clear hd d7 d13 d19
                go_wp2_with (fail)
                refine ⟨rfl, rfl, Ch.refl _ _, gds_is rfl ?_⟩
                (conv => lhs; whnf)
                rw [HGE.out]
              · intro vs W hW hd
                simp only [fill, List.setIfInBounds_toArray, List.set_cons_zero, List.set_cons_succ]
                have d7 := gds_at rfl (hd ⟨7, .data⟩ (by simp) rfl)
                have d20 := gds_at rfl (hd ⟨20, .data⟩ (by simp) rfl)
                rw [d7, d20]
                clear hd d7 d20
                go_wp2_with (fail)
                refine ⟨rfl, rfl, Ch.refl _ _, gds_is rfl ?_⟩
                (conv => lhs; whnf)
              · intro vs W hW hd
                simp only [fill, List.setIfInBounds_toArray, List.set_cons_zero, List.set_cons_succ]
                have d21 := gds_at rfl (hd ⟨21, .data⟩ (by simp) rfl)
                rw [d21]
                clear hd d21
                go_wp2_with (fail)
                refine ⟨rfl, rfl, Ch.refl _ _, gds_is rfl ?_⟩
                (conv => lhs; whnf)
              · intro vs W hW hd
                simp only [fill, List.setIfInBounds_toArray, List.set_cons_zero, List.set_cons_succ]
                have d22 := gds_at rfl (hd ⟨22, .guard⟩ (by simp) rfl)
                rw [d22]
                clear hd d22
                go_wp2_with (fail)
                refine ⟨rfl, rfl, Ch.refl _ _, gds_is rfl ?_⟩
                (conv => lhs; whnf)
              · intro vs W hW hd
                simp only [fill, List.setIfInBounds_toArray, List.set_cons_zero, List.set_cons_succ]
                have d22 := gds_at rfl (hd ⟨22, .guard⟩ (by simp) rfl)
                rw [d22]
                clear hd d22
                go_wp2_with (fail)
                refine ⟨rfl, rfl, Ch.refl _ _, gds_is rfl ?_⟩
                (conv => lhs; whnf)
              · intro vs W hW hd
                simp only [fill, List.setIfInBounds_toArray, List.set_cons_zero, List.set_cons_succ]
                have d22 := gds_at rfl (hd ⟨22, .guard⟩ (by simp) rfl)
                rw [d22]
                clear hd d22
                go_wp2_with (fail)
                refine ⟨rfl, rfl, Ch.refl _ _, gds_is rfl ?_⟩
                (conv => lhs; whnf)
              · intro vs W hW hd
                simp only [fill, List.setIfInBounds_toArray, List.set_cons_zero, List.set_cons_succ]
                have d22 := gds_at rfl (hd ⟨22, .guard⟩ (by simp) rfl)
                have d24 := gds_at rfl (hd ⟨24, .data⟩ (by simp) rfl)
                have d25 := gds_at rfl (hd ⟨25, .data⟩ (by simp) rfl)
                rw [d22, d24, d25]
                clear hd d22 d24 d25
                go_wp2_with (fail)
                refine ⟨rfl, rfl, Ch.refl _ _, gds_is rfl ?_⟩
                (conv => lhs; whnf)
              · intro vs W hW hd
                simp only [fill, List.setIfInBounds_toArray, List.set_cons_zero, List.set_cons_succ]
                have d22 := gds_at rfl (hd ⟨22, .guard⟩ (by simp) rfl)
                have d26 := gds_at rfl (hd ⟨26, .data⟩ (by simp) rfl)
                rw [d22, d26]
                clear hd d22 d26
                have hWW := (Ch.refl no wr).drew.same hW
                have q0 := cell_ch hWW p0
                have q1 := cell_ch hWW p1
                go_wp2_with (fail)
                refine ⟨rfl, rfl, Ch.refl _ _, gds_is rfl ?_⟩
                (conv => lhs; whnf)
              · intro vs W hW hd
                simp only [fill, List.setIfInBounds_toArray, List.set_cons_zero, List.set_cons_succ]
                have d22 := gds_at rfl (hd ⟨22, .guard⟩ (by simp) rfl)
                rw [d22]
                clear hd d22
                go_wp2_with (fail)
                refine ⟨rfl, rfl, Ch.refl _ _, gds_is rfl ?_⟩
                (conv => lhs; whnf)
              · intro vs W hW hd
                simp only [fill, List.setIfInBounds_toArray, List.set_cons_zero, List.set_cons_succ]
                have d22 := gds_at rfl (hd ⟨22, .guard⟩ (by simp) rfl)
                rw [d22]
                clear hd d22
                go_wp2_with (fail)
                refine ⟨rfl, rfl, Ch.refl _ _, gds_is rfl ?_⟩
                (conv => lhs; whnf)
              · intro vs W hW hd
                simp only [fill, List.setIfInBounds_toArray, List.set_cons_zero, List.set_cons_succ]
                have d22 := gds_at rfl (hd ⟨22, .guard⟩ (by simp) rfl)
                have d28 := gds_at rfl (hd ⟨28, .data⟩ (by simp) rfl)
                have d29 := gds_at rfl (hd ⟨29, .data⟩ (by simp) rfl)
                rw [d22, d28, d29]
                clear hd d22 d28 d29
                go_wp2_with (fail)
                refine ⟨rfl, rfl, Ch.refl _ _, gds_is rfl ?_⟩
                (conv => lhs; whnf)
              · intro vs W hW hd
                simp only [fill, List.setIfInBounds_toArray, List.set_cons_zero, List.set_cons_succ]
                have d22 := gds_at rfl (hd ⟨22, .guard⟩ (by simp) rfl)
                have d30 := gds_at rfl (hd ⟨30, .data⟩ (by simp) rfl)
                rw [d22, d30]
                clear hd d22 d30
                have hWW := (Ch.refl no wr).drew.same hW
                have q0 := cell_ch hWW p0
                have q1 := cell_ch hWW p1
                go_wp2_with (fail)
                refine ⟨rfl, rfl, Ch.refl _ _, gds_is rfl ?_⟩
                (conv => lhs; whnf)
              · intro vs W hW hd
                simp only [fill, List.setIfInBounds_toArray, List.set_cons_zero, List.set_cons_succ]
                have d22 := gds_at rfl (hd ⟨22, .guard⟩ (by simp) rfl)
                have d23 := gds_at rfl (hd ⟨23, .data⟩ (by simp) rfl)
                have d27 := gds_at rfl (hd ⟨27, .data⟩ (by simp) rfl)
                have d31 := gds_at rfl (hd ⟨31, .data⟩ (by simp) rfl)
                rw [d22, d23, d27, d31]
                clear hd d22 d23 d27 d31
                have hWW := (Ch.refl no wr).drew.same hW
                have q0 := cell_ch hWW p0
                have q1 := cell_ch hWW p1
                go_wp2_with (have hs := above_at B D p x W (HI.out.dag.ch ((Ch.refl no wr).drew.same hW)); rw [HP.out.2.2.1] at hs; refine hs.mono ?_; rintro e w2 ⟨rfl, hch⟩)
                exact ⟨rfl, rfl, hch, gds_is rfl rfl⟩
              · intro vs W hW hd
                simp only [fill, List.setIfInBounds_toArray, List.set_cons_zero, List.set_cons_succ]
                have d22 := gds_at rfl (hd ⟨22, .guard⟩ (by simp) rfl)
                have d32 := gds_at rfl (hd ⟨32, .data⟩ (by simp) rfl)
                rw [d22, d32]
                clear hd d22 d32
                go_wp2_with (fail)
                refine ⟨rfl, rfl, Ch.refl _ _, gds_is rfl ?_⟩
                (conv => lhs; whnf)
              · intro vs W hW hd
                simp only [fill, List.setIfInBounds_toArray, List.set_cons_zero, List.set_cons_succ]
                have d22 := gds_at rfl (hd ⟨22, .data⟩ (by simp) rfl)
                have d33 := gds_at rfl (hd ⟨33, .data⟩ (by simp) rfl)
                rw [d22, d33]
                clear hd d22 d33
                go_wp2_with (fail)
                refine ⟨rfl, rfl, Ch.refl _ _, gds_is rfl ?_⟩
                (conv => lhs; whnf)
              · intro vs W hW hd
                simp only [fill, List.setIfInBounds_toArray, List.set_cons_zero, List.set_cons_succ]
                have d34 := gds_at rfl (hd ⟨34, .data⟩ (by simp) rfl)
                rw [d34]
                clear hd d34
                go_wp2_with (fail)
                refine ⟨rfl, rfl, Ch.refl _ _, gds_is rfl ?_⟩
                (conv => lhs; whnf)
              · intro vs W hW hd
                simp only [fill, List.setIfInBounds_toArray, List.set_cons_zero, List.set_cons_succ]
                have d35 := gds_at rfl (hd ⟨35, .guard⟩ (by simp) rfl)
                rw [d35]
                clear hd d35
                go_wp2_with (fail)
                refine ⟨rfl, rfl, Ch.refl _ _, gds_is rfl ?_⟩
                (conv => lhs; whnf)
              · intro vs W hW hd
                simp only [fill, List.setIfInBounds_toArray, List.set_cons_zero, List.set_cons_succ]
                have d35 := gds_at rfl (hd ⟨35, .guard⟩ (by simp) rfl)
                rw [d35]
                clear hd d35
                go_wp2_with (fail)
                refine ⟨rfl, rfl, Ch.refl _ _, gds_is rfl ?_⟩
                (conv => lhs; whnf)
              · intro vs W hW hd
                simp only [fill, List.setIfInBounds_toArray, List.set_cons_zero, List.set_cons_succ]
                have d35 := gds_at rfl (hd ⟨35, .guard⟩ (by simp) rfl)
                rw [d35]
                clear hd d35
                go_wp2_with (fail)
                refine ⟨rfl, rfl, Ch.refl _ _, gds_is rfl ?_⟩
                (conv => lhs; whnf)
              · intro vs W hW hd
                simp only [fill, List.setIfInBounds_toArray, List.set_cons_zero, List.set_cons_succ]
                have d35 := gds_at rfl (hd ⟨35, .guard⟩ (by simp) rfl)
                have d37 := gds_at rfl (hd ⟨37, .data⟩ (by simp) rfl)
                have d38 := gds_at rfl (hd ⟨38, .data⟩ (by simp) rfl)
                rw [d35, d37, d38]
                clear hd d35 d37 d38
                go_wp2_with (fail)
                refine ⟨rfl, rfl, Ch.refl _ _, gds_is rfl ?_⟩
                (conv => lhs; whnf)
              · intro vs W hW hd
                simp only [fill, List.setIfInBounds_toArray, List.set_cons_zero, List.set_cons_succ]
                have d35 := gds_at rfl (hd ⟨35, .guard⟩ (by simp) rfl)
                have d39 := gds_at rfl (hd ⟨39, .data⟩ (by simp) rfl)
                rw [d35, d39]
                clear hd d35 d39
                have hWW := (Ch.refl no wr).drew.same hW
                have q0 := cell_ch hWW p0
                have q1 := cell_ch hWW p1
                go_wp2_with (fail)
                refine ⟨rfl, rfl, Ch.refl _ _, gds_is rfl ?_⟩
                (conv => lhs; whnf)
              · intro vs W hW hd
                simp only [fill, List.setIfInBounds_toArray, List.set_cons_zero, List.set_cons_succ]
                have d35 := gds_at rfl (hd ⟨35, .guard⟩ (by simp) rfl)
                rw [d35]
                clear hd d35
                go_wp2_with (fail)
                refine ⟨rfl, rfl, Ch.refl _ _, gds_is rfl ?_⟩
                (conv => lhs; whnf)
              · intro vs W hW hd
                simp only [fill, List.setIfInBounds_toArray, List.set_cons_zero, List.set_cons_succ]
                have d35 := gds_at rfl (hd ⟨35, .guard⟩ (by simp) rfl)
                rw [d35]
                clear hd d35
                go_wp2_with (fail)
                refine ⟨rfl, rfl, Ch.refl _ _, gds_is rfl ?_⟩
                (conv => lhs; whnf)
              · intro vs W hW hd
                simp only [fill, List.setIfInBounds_toArray, List.set_cons_zero, List.set_cons_succ]
                have d35 := gds_at rfl (hd ⟨35, .guard⟩ (by simp) rfl)
                have d41 := gds_at rfl (hd ⟨41, .data⟩ (by simp) rfl)
                have d42 := gds_at rfl (hd ⟨42, .data⟩ (by simp) rfl)
                rw [d35, d41, d42]
                clear hd d35 d41 d42
                go_wp2_with (fail)
                refine ⟨rfl, rfl, Ch.refl _ _, gds_is rfl ?_⟩
                (conv => lhs; whnf)
              · intro vs W hW hd
                simp only [fill, List.setIfInBounds_toArray, List.set_cons_zero, List.set_cons_succ]
                have d35 := gds_at rfl (hd ⟨35, .guard⟩ (by simp) rfl)
                have d43 := gds_at rfl (hd ⟨43, .data⟩ (by simp) rfl)
                rw [d35, d43]
                clear hd d35 d43
                have hWW := (Ch.refl no wr).drew.same hW
                have q0 := cell_ch hWW p0
                have q1 := cell_ch hWW p1
                go_wp2_with (fail)
                refine ⟨rfl, rfl, Ch.refl _ _, gds_is rfl ?_⟩
                (conv => lhs; whnf)
              · intro vs W hW hd
                simp only [fill, List.setIfInBounds_toArray, List.set_cons_zero, List.set_cons_succ]
                have d35 := gds_at rfl (hd ⟨35, .guard⟩ (by simp) rfl)
                have d36 := gds_at rfl (hd ⟨36, .data⟩ (by simp) rfl)
                have d40 := gds_at rfl (hd ⟨40, .data⟩ (by simp) rfl)
                have d44 := gds_at rfl (hd ⟨44, .data⟩ (by simp) rfl)
                rw [d35, d36, d40, d44]
                clear hd d35 d36 d40 d44
                have hWW := (Ch.refl no wr).drew.same hW
                have q0 := cell_ch hWW p0
                have q1 := cell_ch hWW p1
                go_wp2_with (have hs := above_at B D x p W (HI.out.dag.ch ((Ch.refl no wr).drew.same hW)); rw [HP.out.2.2.2] at hs; refine hs.mono ?_; rintro e w2 ⟨rfl, hch⟩)
                exact ⟨rfl, rfl, hch, gds_is rfl rfl⟩
            case fin17 =>
              intro vs W hW hd
              have d0 := gds_at rfl (hd 0 (by omega))
              have d1 := gds_at rfl (hd 1 (by omega))
              have d2 := gds_at rfl (hd 2 (by omega))
              have d3 := gds_at rfl (hd 3 (by omega))
              have d4 := gds_at rfl (hd 4 (by omega))
              have d5 := gds_at rfl (hd 5 (by omega))
              have d6 := gds_at rfl (hd 6 (by omega))
              have d7 := gds_at rfl (hd 7 (by omega))
              have d8 := gds_at rfl (hd 8 (by omega))
              have d9 := gds_at rfl (hd 9 (by omega))
              have d10 := gds_at rfl (hd 10 (by omega))
              have d11 := gds_at rfl (hd 11 (by omega))
              have d12 := gds_at rfl (hd 12 (by omega))
              have d13 := gds_at rfl (hd 13 (by omega))
              have d14 := gds_at rfl (hd 14 (by omega))
              have d15 := gds_at rfl (hd 15 (by omega))
              have d16 := gds_at rfl (hd 16 (by omega))
              have d17 := gds_at rfl (hd 17 (by omega))
              have d18 := gds_at rfl (hd 18 (by omega))
              have d19 := gds_at rfl (hd 19 (by omega))
              have d20 := gds_at rfl (hd 20 (by omega))
              have d21 := gds_at rfl (hd 21 (by omega))
              have d22 := gds_at rfl (hd 22 (by omega))
              have d23 := gds_at rfl (hd 23 (by omega))
              have d24 := gds_at rfl (hd 24 (by omega))
              have d25 := gds_at rfl (hd 25 (by omega))
              have d26 := gds_at rfl (hd 26 (by omega))
              have d27 := gds_at rfl (hd 27 (by omega))
              have d28 := gds_at rfl (hd 28 (by omega))
              have d29 := gds_at rfl (hd 29 (by omega))
              have d30 := gds_at rfl (hd 30 (by omega))
              have d31 := gds_at rfl (hd 31 (by omega))
              have d32 := gds_at rfl (hd 32 (by omega))
              have d33 := gds_at rfl (hd 33 (by omega))
              have d34 := gds_at rfl (hd 34 (by omega))
              have d35 := gds_at rfl (hd 35 (by omega))
              have d36 := gds_at rfl (hd 36 (by omega))
              have d37 := gds_at rfl (hd 37 (by omega))
              have d38 := gds_at rfl (hd 38 (by omega))
              have d39 := gds_at rfl (hd 39 (by omega))
              have d40 := gds_at rfl (hd 40 (by omega))
              have d41 := gds_at rfl (hd 41 (by omega))
              have d42 := gds_at rfl (hd 42 (by omega))
              have d43 := gds_at rfl (hd 43 (by omega))
              have d44 := gds_at rfl (hd 44 (by omega))
              have d45 := gds_at rfl (hd 45 (by omega))
              refine wpList_frame (by conv => lhs; simp only [fill, List.setIfInBounds_toArray, List.set_cons_zero, List.set_cons_succ, List.take_succ_cons, List.take_zero, d0, d1, d2, d3, d4, d5, d6, d7, d8, d9, d10, d11, d12, d13, d14, d15, d16, d17, d18, d19, d20, d21, d22, d23, d24, d25, d26, d27, d28, d29, d30, d31, d32, d33, d34, d35, d36, d37, d38, d39, d40, d41, d42, d43, d44, d45]) ?_
              simp only [List.drop_succ_cons, List.drop_zero]
              clear hd d0 d1 d2 d3 d4 d5 d6 d7 d8 d9 d10 d11 d12 d13 d14 d15 d16 d17 d18 d19 d20 d21 d22 d23 d24 d25 d26 d27 d28 d29 d30 d31 d32 d33 d34 d35 d36 d37 d38 d39 d40 d41 d42 d43 d44 d45
              have HWZ : Hid (Ch no wr W) := Lib.hid ((Ch.refl no wr).drew.then_ hW)
              clear hW
              replace p1 := cell_ch HWZ.out p1
              replace p0 := cell_ch HWZ.out p0
              go_wp2_with fail
              have hs := level_of B D p W (HI.out.dag.ch HWZ.out)
              rw [HP.out.2.1] at hs
              refine hs.mono ?_
              rintro e w2 ⟨rfl, hw⟩
              subst hw
              clear hs
              go_wp2_with fail
              go_roundw
              case rel => exact ⟨m + 1, by omega, by go_num, by rw [HTN.out]; congr 1; split <;> omega, Lib.hid ⟨HI.out.dag.ch HWZ.out, HI.out.ch.then_ HWZ.out⟩⟩
              case measure => simp [intOf]; omega
          · obtain ⟨adi', hadi, p0⟩ := (HR46.out.ch HI.out.ch).flat_at k hlt
            cases hadi
            replace p0 : wr.cell? (adi.add k) = some (.string x) := p0.trans (congrArg (fun z => some (Value.string z)) HXK.out)
            have HT : Hid (D.top (ps.take m) = lx) := Lib.hid (by rw [List.take_of_length_le (by omega)]; exact HTX.out.symm)
            rw [HT.out]
            have gne : ((lx : Int) != ((lx : Int) - 1 + 1)) = false := by simp
            go_wp2_with fail
            have hs := level_of B D x wr HI.out.dag
            rw [HLX.out] at hs
            refine hs.mono ?_
            rintro e w2 ⟨rfl, hw⟩
            subst hw
            clear hs
            go_wp2_with fail
            go_roundw
            case rel => exact ⟨k + 1, by omega, by go_num, Lib.hid ⟨HI.out.dag, HC6.out.then_ HI.out.ch⟩⟩
            case measure => simp [intOf]; omega
      · go_wp2_with fail
        refine (waiting_of B D 14 wr HCR.out.dag HFI.out (by omega)).mono ?_
        rintro e w6 ⟨v6, rfl, ho6, hc6⟩
        obtain ⟨A6, c6, rfl⟩ := own_shape ho6
        have HR6 := Lib.hid (row_of_own ho6)
        have HI0 : Hid (CL w6 w6 B D) := Lib.hid ⟨HCR.out.dag.ch hc6, Ch.refl _ _⟩
        have HC6 := Lib.hid (HCR.out.ch.then_ hc6)
        clear ho6 hc6
        have HWI : Hid (∀ y ∈ D.waiting, D.has y = false ∧ D.level y = -1 ∧ D.parents y = []) := Lib.hid (fun y hy => wait_facts HFI.out (mem_srt.1 hy))
        have hlw := HR6.out.len
        obtain ⟨ws, hws⟩ : ∃ ws, D.waiting = ws := ⟨_, rfl⟩
        rw [hws] at HR6 HWI hlw ⊢
        clear hws
        go_wp2_with fail
        go_loopw [12] (fun q wz => ∃ m : Nat, m ≤ ws.length ∧ q = .int .i64 m ∧ Hid (CL w6 wz B D)) (fun q _ => ws.length - (intOf q).toNat)
        case atStart => exact ⟨0, by omega, rfl, HI0⟩
        case round =>
          clear HI0
          obtain ⟨m, hm, rfl, HI⟩ := hrel
          by_cases hlm : m < ws.length
          · obtain ⟨adw, rfl, p1⟩ := (HR6.out.ch HI.out.ch).flat_at m hlm
            have HY := Lib.hid (HWI.out _ (List.getElem_mem (h := hlm)))
            obtain ⟨y, hy⟩ : ∃ y, ws[m] = y := ⟨_, rfl⟩
            replace p1 : wr.cell? (adw.add m) = some (.string y) := p1.trans (congrArg (fun z => some (Value.string z)) hy)
            rw [hy] at HY
            clear hy
            go_wp2_with fail
            have hs := has_of B D y wr HI.out.dag
            rw [HY.out.1] at hs
            refine hs.mono ?_
            rintro e w2 ⟨rfl, hw⟩
            subst hw
            clear hs
            go_wp2_with fail
            have hs := level_of B D y wr HI.out.dag
            rw [HY.out.2.1] at hs
            refine hs.mono ?_
            rintro e w2 ⟨rfl, hw⟩
            subst hw
            clear hs
            go_wp2_with fail
            have hs := parents_of B D 14 y wr HI.out.dag HFI.out (by omega)
            rw [HY.out.2.2] at hs
            refine hs.mono ?_
            rintro e w8 ⟨v8, rfl, ho8, hc8⟩
            obtain ⟨A8, c8, rfl⟩ := row_nil (RowV.of_own ho8)
            have HC8 := Lib.hid hc8
            clear ho8 hc8 hs p1
            go_wp2_with fail
            go_roundw
            case rel => exact ⟨m + 1, by omega, by go_num, Lib.hid ⟨HI.out.dag.ch HC8.out, HI.out.ch.then_ HC8.out⟩⟩
            case measure => simp [intOf]; omega
          · go_wp2_with fail
            have hs := many_of B D wr HI.out.dag
            rw [← HML.out] at hs
            refine hs.mono ?_
            rintro e w2 ⟨rfl, hw⟩
            subst hw
            clear hs
            go_wp2_with fail
            go_ret
            exact ⟨rfl, (HC4.out.then_ HC6.out).then_ HI.out.ch⟩
end Go.Proofs.Ytlmcbmgdhpoedaa.Ec
