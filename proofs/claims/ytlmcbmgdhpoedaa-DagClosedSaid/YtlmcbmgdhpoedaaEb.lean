/- Each id stands below a head: walked. -/
import Derived.Test.YtlmcbmgdhpoedaaEa
namespace Go.Proofs.Ytlmcbmgdhpoedaa.Eb
open Go Go.RowKit Go.Proofs.Ytlmcbmgdhpoedaa.Aa Go.Proofs.Ytlmcbmgdhpoedaa.Vw Go.Proofs.Ytlmcbmgdhpoedaa.Mr Go.Proofs.Ytlmcbmgdhpoedaa.Mt Go.Proofs.Ytlmcbmgdhpoedaa.Da Go.Proofs.Ytlmcbmgdhpoedaa.Db Go.Proofs.Ytlmcbmgdhpoedaa.Dc Go.Proofs.Ytlmcbmgdhpoedaa.De Go.Proofs.Ytlmcbmgdhpoedaa.Di Go.Proofs.Ytlmcbmgdhpoedaa.Dk Go.Proofs.Ytlmcbmgdhpoedaa.Dl Go.Proofs.Ytlmcbmgdhpoedaa.Dn Go.Proofs.Ytlmcbmgdhpoedaa.Dr Go.Proofs.Ytlmcbmgdhpoedaa.Ds Go.Proofs.Ytlmcbmgdhpoedaa.Dt Go.Proofs.Ytlmcbmgdhpoedaa.Du Go.Proofs.Ytlmcbmgdhpoedaa.Dv Go.Proofs.Ytlmcbmgdhpoedaa.Ea
set_option linter.unusedVariables false
set_option linter.unusedSimpArgs false

theorem above_at (B : Nat) (d : Gr) (a b : Nm) (w : World) (h : DagV w B d) :
    Calls Try.prog 13 #[ptr B, .string a, .string b] w fun e w' => e = .returned (.bool (aboveB d a b)) ∧ Ch no w w' := by
  refine (above_of B d a b w h).mono ?_
  rintro e w' ⟨r, rfl, hr, hc⟩
  refine ⟨?_, hc⟩
  have : r = aboveB d a b := by
    cases r with
    | true => exact (aboveB_iff.2 (hr.1 rfl)).symm
    | false =>
      cases hb : aboveB d a b with
      | false => rfl
      | true => exact absurd (hr.2 (aboveB_iff.1 hb)) (by simp)
  rw [this]
/-- Between two rounds: how many heads stand on x. -/
structure HL (w0 wr : World) (B : Nat) (D : Gr) (x : Nm) (hs : List Nm) (m bl : Nat) : Prop where
  dag : DagV wr B D
  ch : Ch no w0 wr
  le : bl ≤ m
  pos : 0 < bl ↔ ∃ h ∈ hs.take m, aboveB D x h = true
theorem HL.next {w0 wr wa w3 : World} {B : Nat} {D : Gr} {x hd : Nm} {hs : List Nm} {m bl bl' : Nat} (h : HL w0 wr B D x hs m bl) (h1 : Ch no wr wa) (h2 : Ch no wa w3) (hm : m < hs.length) (hx : hs[m] = hd) (hb : bl' = if aboveB D x hd then bl + 1 else bl) : HL w0 w3 B D x hs (m + 1) bl' := by
  refine ⟨(h.dag.ch h1).ch h2, (h.ch.then_ h1).then_ h2, ?_, ?_⟩
  · have := h.le
    rw [hb]; split <;> omega
  · rw [List.take_succ_eq_append_getElem hm, hx, hb]
    split
    · rename_i ha
      exact ⟨fun _ => ⟨hd, by simp, ha⟩, fun _ => by omega⟩
    · rename_i ha
      rw [h.pos]
      constructor
      · rintro ⟨y, hy, h3⟩
        exact ⟨y, List.mem_append_left _ hy, h3⟩
      · rintro ⟨y, hy, h3⟩
        rcases List.mem_append.1 hy with hy | hy
        · exact ⟨y, hy, h3⟩
        · simp only [List.mem_singleton] at hy
          subst hy
          exact absurd h3 ha
set_option maxRecDepth 100000 in
set_option maxHeartbeats 8000000 in
theorem dheads_of (A : Option Addr) (c : Nat) (l : List Nd) (w : World) (h : nd.Row w A c l) :
    Calls Try.prog 3 #[.slice A l.length c] w fun e w' => e = .returned (.bool true) ∧ Ch no w w' := by
  have hlx := h.len
  have HX := Lib.hid h; clear h
  go_enter Try.func3, Try.ntmps3
  go_wp2_with fail
  refine (awake_of w).mono ?_
  rintro e w1 ⟨rfl, hc1⟩
  have HC1 := Lib.hid hc1; clear hc1
  go_wp2_with fail
  have hn := few_of A c l w1 (HX.out.ch HC1.out)
  obtain ⟨f1, hf1⟩ : ∃ f, few l = f := ⟨_, rfl⟩
  rw [hf1] at hn
  refine hn.mono ?_
  rintro e w' ⟨rfl, hw⟩
  subst hw
  have HF1 := Lib.hid hf1
  clear hn hf1
  cases f1 with
  | false =>
    go_wp2_with fail
    go_ret
    exact ⟨rfl, HC1.out⟩
  | true =>
    have HFI : Hid (Fine (graph l) 14) := Lib.hid (by
      have h1 := graph_fine HF1.out l.length (Nat.le_refl _)
      rw [List.take_length] at h1
      exact h1.mono (few_len HF1.out))
    have HWF : Hid (Wf (graph l)) := Lib.hid (by
      have h1 := graph_wf l l.length
      rwa [List.take_length] at h1)
    obtain ⟨D, hD⟩ : ∃ D, graph l = D := ⟨_, rfl⟩
    rw [hD] at HFI HWF
    go_wp2_with fail
    have ha := added_of A c l w1 (HX.out.ch HC1.out) HF1.out
    rw [hD] at ha
    refine ha.mono ?_
    rintro e w3 ⟨B, rfl, hd3, hc3, hB⟩
    have HD3 := Lib.hid hd3; have HC3 := Lib.hid (HC1.out.then_ hc3)
    clear hd3 hc3 hB ha hD
    go_wp2_with fail
    refine (ids_of B D 14 w3 HD3.out HFI.out (by omega)).mono ?_
    rintro e w4 ⟨v4, rfl, ho4, hc4⟩
    obtain ⟨A4, c4, rfl⟩ := own_shape ho4
    have HR4 := Lib.hid (row_of_own ho4); have HD4 := Lib.hid (HD3.out.ch hc4); have HC4 := Lib.hid (HC3.out.then_ hc4)
    clear ho4 hc4 HD3 HC3
    go_wp2_with fail
    refine (heads_of B D 14 w4 HD4.out HFI.out (by omega)).mono ?_
    rintro e w5 ⟨v5, rfl, ho5, hc5⟩
    obtain ⟨A5, c5, rfl⟩ := own_shape ho5
    have HR5 := Lib.hid (row_of_own ho5); have HD5 := Lib.hid (HD4.out.ch hc5); have HC5 := Lib.hid (HC4.out.then_ hc5); have HR45 := Lib.hid (HR4.out.ch hc5)
    clear ho5 hc5 HD4 HC4 HR4
    have HIN : Hid (∀ x ∈ D.allIds, x ∈ D.ids) := Lib.hid (fun x hx => mem_srt.1 hx)
    have HEM := Lib.hid (heads_empty HFI.out HWF.out)
    have hli := HR45.out.len; have hlh := HR5.out.len
    obtain ⟨is, his⟩ : ∃ is, D.allIds = is := ⟨_, rfl⟩
    obtain ⟨hs, hhs⟩ : ∃ hs, D.heads = hs := ⟨_, rfl⟩
    rw [his] at HR45 HIN HEM hli ⊢
    rw [hhs] at HR5 HEM hlh ⊢
    have HHS := Lib.hid hhs
    clear his hhs
    go_wp2_with fail
    go_loopw [8] (fun i wr => ∃ k : Nat, k ≤ is.length ∧ i = .int .i64 k ∧ Hid (Ch no w5 wr)) (fun i _ => is.length - (intOf i).toNat)
    case atStart => exact ⟨0, by omega, rfl, Lib.hid (Ch.refl _ _)⟩
    case round =>
      obtain ⟨k, hk, rfl, HCR⟩ := hrel
      by_cases hlt : k < is.length
      · obtain ⟨adi, rfl, pi⟩ := (HR45.out.ch HCR.out).flat_at k hlt
        have HXI : Hid (is[k] ∈ D.ids) := Lib.hid (HIN.out _ (List.getElem_mem _))
        obtain ⟨x, hx⟩ : ∃ x, is[k] = x := ⟨_, rfl⟩
        have HXK := Lib.hid hx
        rw [hx] at pi HXI
        clear hx
        have HI0 : Hid (HL w5 wr B D x hs 0 0) := Lib.hid ⟨HD5.out.ch HCR.out, HCR.out, by omega, by simp⟩
        go_wp2_with fail
        go_loopw [9, 10] (fun v q wz => ∃ m bl : Nat, m ≤ hs.length ∧ q = .int .i64 m ∧ v = .int .i64 bl ∧ Hid (HL w5 wz B D x hs m bl)) (fun _ q _ => hs.length - (intOf q).toNat)
        case atStart => exact ⟨0, 0, by omega, rfl, rfl, HI0⟩
        case round =>
          clear HI0
          obtain ⟨m, bl, hm, rfl, rfl, HI⟩ := hrel
          by_cases hlm : m < hs.length
          · obtain ⟨adh, rfl, p1⟩ := (HR5.out.ch HI.out.ch).flat_at m hlm
            obtain ⟨adi', hadi, p0⟩ := (HR45.out.ch HI.out.ch).flat_at k hlt
            cases hadi
            have HMK := Lib.hid hlm
            have hble := HI.out.le
            obtain ⟨hd, hhd⟩ : ∃ hd, hs[m] = hd := ⟨_, rfl⟩
            have HXM := Lib.hid hhd
            have p1 : wr.cell? (adh.add m) = some (.string hd) := p1.trans (congrArg (fun z => some (Value.string z)) hhd)
            have p0 : wr.cell? (adi.add k) = some (.string x) := p0.trans (congrArg (fun z => some (Value.string z)) HXK.out)
            have HPM : Hid (hd ∈ hs) := Lib.hid (by rw [← hhd]; exact List.getElem_mem _)
            clear hhd
            have HHD : Hid (D.Reach x hd → hd = x) := Lib.hid (fun hr => (head_top HFI.out HWF.out (by rw [HHS.out]; exact HPM.out) hr).symm)
            go_upto_region 17 with (fail)
            obtain ⟨r1, hr1⟩ : ∃ r, aboveB D x hd = r := ⟨_, rfl⟩
            have HR1 := Lib.hid hr1
            clear hr1
            cases r1 with
            | true =>
              refine wp_region_tail (G := gds [Gd.is ?r17x1v0, Gd.is ?r17x1v1, Gd.is ?r17x1v2, Gd.is ?r17x1v3, Gd.is ?r17x1v4, Gd.is ?r17x1v5, Gd.is ?r17x1v6, Gd.is ?r17x1v7, Gd.is ?r17x1v8]) 9 (by kernel_rfl) (by kernel_rfl) rfl (by kernel_rfl) gds_st ?obl17x1 ?fin17x1
              case obl17x1 =>
                simp only [Obls, and_true, List.take_succ_cons, List.take_zero]
                refine ⟨?_, ?_, ?_, ?_, ?_, ?_, ?_, ?_, ?_⟩
                · intro vs W hW hd
                  simp only [fill, List.setIfInBounds_toArray, List.set_cons_zero, List.set_cons_succ]
                  clear hd
                  go_wp2_with (fail)
                  refine ⟨rfl, rfl, Ch.refl _ _, gds_is rfl ?_⟩
                  (conv => lhs; whnf)
                · intro vs W hW hd
                  simp only [fill, List.setIfInBounds_toArray, List.set_cons_zero, List.set_cons_succ]
                  clear hd
                  go_wp2_with (fail)
                  refine ⟨rfl, rfl, Ch.refl _ _, gds_is rfl ?_⟩
                  (conv => lhs; whnf)
                · intro vs W hW hd
                  simp only [fill, List.setIfInBounds_toArray, List.set_cons_zero, List.set_cons_succ]
                  clear hd
                  go_wp2_with (fail)
                  refine ⟨rfl, rfl, Ch.refl _ _, gds_is rfl ?_⟩
                  (conv => lhs; whnf)
                · intro vs W hW hd
                  simp only [fill, List.setIfInBounds_toArray, List.set_cons_zero, List.set_cons_succ]
                  have d1 := gds_at rfl (hd ⟨1, .data⟩ (by simp) rfl)
                  have d2 := gds_at rfl (hd ⟨2, .data⟩ (by simp) rfl)
                  rw [d1, d2]
                  clear hd d1 d2
                  go_wp2_with (fail)
                  refine ⟨rfl, rfl, Ch.refl _ _, gds_is rfl ?_⟩
                  (conv => lhs; whnf)
                · intro vs W hW hd
                  simp only [fill, List.setIfInBounds_toArray, List.set_cons_zero, List.set_cons_succ]
                  have d3 := gds_at rfl (hd ⟨3, .data⟩ (by simp) rfl)
                  rw [d3]
                  clear hd d3
                  have hWW := (Ch.refl no wr).drew.same hW
                  have q0 := cell_ch hWW p0
                  have q1 := cell_ch hWW p1
                  go_wp2_with (fail)
                  refine ⟨rfl, rfl, Ch.refl _ _, gds_is rfl ?_⟩
                  (conv => lhs; whnf)
                · intro vs W hW hd
                  simp only [fill, List.setIfInBounds_toArray, List.set_cons_zero, List.set_cons_succ]
                  clear hd
                  go_wp2_with (fail)
                  refine ⟨rfl, rfl, Ch.refl _ _, gds_is rfl ?_⟩
                  (conv => lhs; whnf)
                · intro vs W hW hd
                  simp only [fill, List.setIfInBounds_toArray, List.set_cons_zero, List.set_cons_succ]
                  clear hd
                  go_wp2_with (fail)
                  refine ⟨rfl, rfl, Ch.refl _ _, gds_is rfl ?_⟩
                  (conv => lhs; whnf)
                · intro vs W hW hd
                  simp only [fill, List.setIfInBounds_toArray, List.set_cons_zero, List.set_cons_succ]
                  have d5 := gds_at rfl (hd ⟨5, .data⟩ (by simp) rfl)
                  have d6 := gds_at rfl (hd ⟨6, .data⟩ (by simp) rfl)
                  rw [d5, d6]
                  clear hd d5 d6
                  go_wp2_with (fail)
                  refine ⟨rfl, rfl, Ch.refl _ _, gds_is rfl ?_⟩
                  (conv => lhs; whnf)
                · intro vs W hW hd
                  simp only [fill, List.setIfInBounds_toArray, List.set_cons_zero, List.set_cons_succ]
                  have d7 := gds_at rfl (hd ⟨7, .data⟩ (by simp) rfl)
                  rw [d7]
                  clear hd d7
                  have hWW := (Ch.refl no wr).drew.same hW
                  have q0 := cell_ch hWW p0
                  have q1 := cell_ch hWW p1
                  go_wp2_with (fail)
                  refine ⟨rfl, rfl, Ch.refl _ _, gds_is rfl ?_⟩
                  (conv => lhs; whnf)
              case fin17x1 =>
                intro vs W hW hd
                simp only [fill, List.setIfInBounds_toArray, List.set_cons_zero, List.set_cons_succ, List.take_succ_cons, List.take_zero, List.drop_succ_cons, List.drop_zero]
                have d0 := gds_at rfl (hd 0 (by omega))
                have d1 := gds_at rfl (hd 1 (by omega))
                have d2 := gds_at rfl (hd 2 (by omega))
                have d3 := gds_at rfl (hd 3 (by omega))
                have d4 := gds_at rfl (hd 4 (by omega))
                have d5 := gds_at rfl (hd 5 (by omega))
                have d6 := gds_at rfl (hd 6 (by omega))
                have d7 := gds_at rfl (hd 7 (by omega))
                have d8 := gds_at rfl (hd 8 (by omega))
                rw [d0, d1, d2, d3, d4, d5, d6, d7, d8]
                clear hd d0 d1 d2 d3 d4 d5 d6 d7 d8
                go_wp2_with (have hs1 := above_at B D x hd W (HI.out.dag.ch ((Ch.refl no wr).drew.same hW)); rw [HR1.out] at hs1; refine hs1.mono ?_; rintro e WA ⟨rfl, hch⟩; have HWA := Lib.hid (((Ch.refl no wr).drew.same hW).then_ hch); clear hch hs1)
                have HDB := Lib.hid (HI.out.dag.ch HWA.out); have HCB := Lib.hid (HI.out.ch.then_ HWA.out)
                have p0 := cell_ch HWA.out p0; have p1 := cell_ch HWA.out p1
                obtain ⟨r2, hr2⟩ : ∃ r, aboveB D hd x = r := ⟨_, rfl⟩
                have HR2 := Lib.hid hr2
                have HWA2 := Lib.hid (Ch.refl no WA)
                clear hr2
                cases r2 with
                | true =>
                  have hbn : (hd.toList == x.toList) = true := beq_yes (HHD.out (aboveB_iff.1 HR2.out).2.2)
                  have hbn2 := beq_yes (HHD.out (aboveB_iff.1 HR2.out).2.2).symm
                  refine wp_region_tail9 (G := gds [Gd.is ?r19x2v0, Gd.is ?r19x2v1, Gd.is ?r19x2v2, Gd.is ?r19x2v3, Gd.is ?r19x2v4, Gd.is ?r19x2v5, Gd.is ?r19x2v6, Gd.is ?r19x2v7, Gd.is ?r19x2v8, Gd.is (.bool true), Gd.is ?r19x2v10, Gd.is ?r19x2v11, Gd.is ?r19x2v12, Gd.is ?r19x2v13, Gd.is ?r19x2v14, Gd.is ?r19x2v15, Gd.is ?r19x2v16, Gd.is ?r19x2v17, Gd.is ?r19x2v18, Gd.is ?r19x2v19]) 20 (by kernel_rfl) (by kernel_rfl) rfl (by kernel_rfl) gds_st ?obl19x2 ?fin19x2
                  case obl19x2 =>
                    simp only [Obls, and_true, List.take_succ_cons, List.take_zero]
                    refine ⟨?_, ?_, ?_, ?_, ?_, ?_, ?_, ?_, ?_, ?_, ?_, ?_, ?_, ?_, ?_, ?_, ?_, ?_, ?_, ?_⟩
                    · intro vs W hW hd
                      simp only [fill, List.setIfInBounds_toArray, List.set_cons_zero, List.set_cons_succ]
                      clear hd
                      go_wp2_with (fail)
                      refine ⟨rfl, rfl, Ch.refl _ _, gds_is rfl ?_⟩
                      (conv => lhs; whnf)
                    · intro vs W hW hd
                      simp only [fill, List.setIfInBounds_toArray, List.set_cons_zero, List.set_cons_succ]
                      clear hd
                      go_wp2_with (fail)
                      refine ⟨rfl, rfl, Ch.refl _ _, gds_is rfl ?_⟩
                      (conv => lhs; whnf)
                    · intro vs W hW hd
                      simp only [fill, List.setIfInBounds_toArray, List.set_cons_zero, List.set_cons_succ]
                      clear hd
                      go_wp2_with (fail)
                      refine ⟨rfl, rfl, Ch.refl _ _, gds_is rfl ?_⟩
                      (conv => lhs; whnf)
                    · intro vs W hW hd
                      simp only [fill, List.setIfInBounds_toArray, List.set_cons_zero, List.set_cons_succ]
                      have d1 := gds_at rfl (hd ⟨1, .data⟩ (by simp) rfl)
                      have d2 := gds_at rfl (hd ⟨2, .data⟩ (by simp) rfl)
                      rw [d1, d2]
                      clear hd d1 d2
                      go_wp2_with (fail)
                      refine ⟨rfl, rfl, Ch.refl _ _, gds_is rfl ?_⟩
                      (conv => lhs; whnf)
                    · intro vs W hW hd
                      simp only [fill, List.setIfInBounds_toArray, List.set_cons_zero, List.set_cons_succ]
                      have d3 := gds_at rfl (hd ⟨3, .data⟩ (by simp) rfl)
                      rw [d3]
                      clear hd d3
                      have hWW := (Ch.refl no WA).drew.same hW
                      have q0 := cell_ch hWW p0
                      have q1 := cell_ch hWW p1
                      go_wp2_with (fail)
                      refine ⟨rfl, rfl, Ch.refl _ _, gds_is rfl ?_⟩
                      (conv => lhs; whnf)
                    · intro vs W hW hd
                      simp only [fill, List.setIfInBounds_toArray, List.set_cons_zero, List.set_cons_succ]
                      clear hd
                      go_wp2_with (fail)
                      refine ⟨rfl, rfl, Ch.refl _ _, gds_is rfl ?_⟩
                      (conv => lhs; whnf)
                    · intro vs W hW hd
                      simp only [fill, List.setIfInBounds_toArray, List.set_cons_zero, List.set_cons_succ]
                      clear hd
                      go_wp2_with (fail)
                      refine ⟨rfl, rfl, Ch.refl _ _, gds_is rfl ?_⟩
                      (conv => lhs; whnf)
                    · intro vs W hW hd
                      simp only [fill, List.setIfInBounds_toArray, List.set_cons_zero, List.set_cons_succ]
                      have d5 := gds_at rfl (hd ⟨5, .data⟩ (by simp) rfl)
                      have d6 := gds_at rfl (hd ⟨6, .data⟩ (by simp) rfl)
                      rw [d5, d6]
                      clear hd d5 d6
                      go_wp2_with (fail)
                      refine ⟨rfl, rfl, Ch.refl _ _, gds_is rfl ?_⟩
                      (conv => lhs; whnf)
                    · intro vs W hW hd
                      simp only [fill, List.setIfInBounds_toArray, List.set_cons_zero, List.set_cons_succ]
                      have d7 := gds_at rfl (hd ⟨7, .data⟩ (by simp) rfl)
                      rw [d7]
                      clear hd d7
                      have hWW := (Ch.refl no WA).drew.same hW
                      have q0 := cell_ch hWW p0
                      have q1 := cell_ch hWW p1
                      go_wp2_with (fail)
                      refine ⟨rfl, rfl, Ch.refl _ _, gds_is rfl ?_⟩
                      (conv => lhs; whnf)
                    · intro vs W hW hd
                      simp only [fill, List.setIfInBounds_toArray, List.set_cons_zero, List.set_cons_succ]
                      have d0 := gds_at rfl (hd ⟨0, .data⟩ (by simp) rfl)
                      have d4 := gds_at rfl (hd ⟨4, .data⟩ (by simp) rfl)
                      have d8 := gds_at rfl (hd ⟨8, .data⟩ (by simp) rfl)
                      rw [d0, d4, d8]
                      clear hd d0 d4 d8
                      have hWW := (Ch.refl no WA).drew.same hW
                      have q0 := cell_ch hWW p0
                      have q1 := cell_ch hWW p1
                      go_wp2_with (have hs := above_at B D hd x W (HDB.out.ch ((Ch.refl no WA).drew.same hW)); rw [HR2.out] at hs; refine hs.mono ?_; rintro e w2 ⟨rfl, hch⟩)
                      exact ⟨rfl, rfl, hch, gds_is rfl rfl⟩
                    · intro vs W hW hd
                      simp only [fill, List.setIfInBounds_toArray, List.set_cons_zero, List.set_cons_succ]
                      have d9 := gds_at rfl (hd ⟨9, .data⟩ (by simp) rfl)
                      rw [d9]
                      clear hd d9
                      go_wp2_with (fail)
                      refine ⟨rfl, rfl, Ch.refl _ _, gds_is rfl ?_⟩
                      (conv => lhs; whnf)
                    · intro vs W hW hd
                      simp only [fill, List.setIfInBounds_toArray, List.set_cons_zero, List.set_cons_succ]
                      have d10 := gds_at rfl (hd ⟨10, .guard⟩ (by simp) rfl)
                      rw [d10]
                      clear hd d10
                      go_wp2_with (fail)
                      refine ⟨rfl, rfl, Ch.refl _ _, gds_is rfl ?_⟩
                      (conv => lhs; whnf)
                    · intro vs W hW hd
                      simp only [fill, List.setIfInBounds_toArray, List.set_cons_zero, List.set_cons_succ]
                      have d10 := gds_at rfl (hd ⟨10, .guard⟩ (by simp) rfl)
                      rw [d10]
                      clear hd d10
                      go_wp2_with (fail)
                      refine ⟨rfl, rfl, Ch.refl _ _, gds_is rfl ?_⟩
                      (conv => lhs; whnf)
                    · intro vs W hW hd
                      simp only [fill, List.setIfInBounds_toArray, List.set_cons_zero, List.set_cons_succ]
                      have d10 := gds_at rfl (hd ⟨10, .guard⟩ (by simp) rfl)
                      have d11 := gds_at rfl (hd ⟨11, .data⟩ (by simp) rfl)
                      have d12 := gds_at rfl (hd ⟨12, .data⟩ (by simp) rfl)
                      rw [d10, d11, d12]
                      clear hd d10 d11 d12
                      go_wp2_with (fail)
                      refine ⟨rfl, rfl, Ch.refl _ _, gds_is rfl ?_⟩
                      (conv => lhs; whnf)
                    · intro vs W hW hd
                      simp only [fill, List.setIfInBounds_toArray, List.set_cons_zero, List.set_cons_succ]
                      have d10 := gds_at rfl (hd ⟨10, .guard⟩ (by simp) rfl)
                      have d13 := gds_at rfl (hd ⟨13, .data⟩ (by simp) rfl)
                      rw [d10, d13]
                      clear hd d10 d13
                      have hWW := (Ch.refl no WA).drew.same hW
                      have q0 := cell_ch hWW p0
                      have q1 := cell_ch hWW p1
                      go_wp2_with (fail)
                      refine ⟨rfl, rfl, Ch.refl _ _, gds_is rfl ?_⟩
                      (conv => lhs; whnf)
                    · intro vs W hW hd
                      simp only [fill, List.setIfInBounds_toArray, List.set_cons_zero, List.set_cons_succ]
                      have d10 := gds_at rfl (hd ⟨10, .guard⟩ (by simp) rfl)
                      rw [d10]
                      clear hd d10
                      go_wp2_with (fail)
                      refine ⟨rfl, rfl, Ch.refl _ _, gds_is rfl ?_⟩
                      (conv => lhs; whnf)
                    · intro vs W hW hd
                      simp only [fill, List.setIfInBounds_toArray, List.set_cons_zero, List.set_cons_succ]
                      have d10 := gds_at rfl (hd ⟨10, .guard⟩ (by simp) rfl)
                      rw [d10]
                      clear hd d10
                      go_wp2_with (fail)
                      refine ⟨rfl, rfl, Ch.refl _ _, gds_is rfl ?_⟩
                      (conv => lhs; whnf)
                    · intro vs W hW hd
                      simp only [fill, List.setIfInBounds_toArray, List.set_cons_zero, List.set_cons_succ]
                      have d10 := gds_at rfl (hd ⟨10, .guard⟩ (by simp) rfl)
                      have d15 := gds_at rfl (hd ⟨15, .data⟩ (by simp) rfl)
                      have d16 := gds_at rfl (hd ⟨16, .data⟩ (by simp) rfl)
                      rw [d10, d15, d16]
                      clear hd d10 d15 d16
                      go_wp2_with (fail)
                      refine ⟨rfl, rfl, Ch.refl _ _, gds_is rfl ?_⟩
                      (conv => lhs; whnf)
                    · intro vs W hW hd
                      simp only [fill, List.setIfInBounds_toArray, List.set_cons_zero, List.set_cons_succ]
                      have d10 := gds_at rfl (hd ⟨10, .guard⟩ (by simp) rfl)
                      have d17 := gds_at rfl (hd ⟨17, .data⟩ (by simp) rfl)
                      rw [d10, d17]
                      clear hd d10 d17
                      have hWW := (Ch.refl no WA).drew.same hW
                      have q0 := cell_ch hWW p0
                      have q1 := cell_ch hWW p1
                      go_wp2_with (fail)
                      refine ⟨rfl, rfl, Ch.refl _ _, gds_is rfl ?_⟩
                      (conv => lhs; whnf)
                    · intro vs W hW hd
                      simp only [fill, List.setIfInBounds_toArray, List.set_cons_zero, List.set_cons_succ]
                      have d10 := gds_at rfl (hd ⟨10, .guard⟩ (by simp) rfl)
                      have d14 := gds_at rfl (hd ⟨14, .data⟩ (by simp) rfl)
                      have d18 := gds_at rfl (hd ⟨18, .data⟩ (by simp) rfl)
                      rw [d10, d14, d18]
                      clear hd d10 d14 d18
                      go_wp2_with (fail)
                      refine ⟨rfl, rfl, Ch.refl _ _, gds_is rfl ?_⟩
                      (conv => lhs; whnf)
                  case fin19x2 =>
                    intro vs W hW hd
                    simp only [fill, List.setIfInBounds_toArray, List.set_cons_zero, List.set_cons_succ, List.take_succ_cons, List.take_zero, List.drop_succ_cons, List.drop_zero]
                    have d0 := gds_at rfl (hd 0 (by omega))
                    have d1 := gds_at rfl (hd 1 (by omega))
                    have d2 := gds_at rfl (hd 2 (by omega))
                    have d3 := gds_at rfl (hd 3 (by omega))
                    have d4 := gds_at rfl (hd 4 (by omega))
                    have d5 := gds_at rfl (hd 5 (by omega))
                    have d6 := gds_at rfl (hd 6 (by omega))
                    have d7 := gds_at rfl (hd 7 (by omega))
                    have d8 := gds_at rfl (hd 8 (by omega))
                    have d9 := gds_at rfl (hd 9 (by omega))
                    have d10 := gds_at rfl (hd 10 (by omega))
                    have d11 := gds_at rfl (hd 11 (by omega))
                    have d12 := gds_at rfl (hd 12 (by omega))
                    have d13 := gds_at rfl (hd 13 (by omega))
                    have d14 := gds_at rfl (hd 14 (by omega))
                    have d15 := gds_at rfl (hd 15 (by omega))
                    have d16 := gds_at rfl (hd 16 (by omega))
                    have d17 := gds_at rfl (hd 17 (by omega))
                    have d18 := gds_at rfl (hd 18 (by omega))
                    have d19 := gds_at rfl (hd 19 (by omega))
                    rw [d0, d1, d2, d3, d4, d5, d6, d7, d8, d9, d10, d11, d12, d13, d14, d15, d16, d17, d18, d19]
                    clear hd d0 d1 d2 d3 d4 d5 d6 d7 d8 d9 d10 d11 d12 d13 d14 d15 d16 d17 d18 d19
                    have HW3 := Lib.hid ((Ch.refl no WA).drew.same hW)
                    go_wp2_with fail
                    go_roundw
                    case rel => exact ⟨m + 1, bl + 1, by omega, by go_num, by go_num, Lib.hid (HI.out.next HWA.out HW3.out HMK.out HXM.out (by rw [HR1.out]; simp))⟩
                    case measure => simp [intOf]; omega
                | false =>
                  refine wp_region_tail9 (G := gds [Gd.is ?r19x3v0, Gd.is ?r19x3v1, Gd.is ?r19x3v2, Gd.is ?r19x3v3, Gd.is ?r19x3v4, Gd.is ?r19x3v5, Gd.is ?r19x3v6, Gd.is ?r19x3v7, Gd.is ?r19x3v8, Gd.is (.bool false), Gd.is ?r19x3v10, Gd.is ?r19x3v11, Gd.is ?r19x3v12, Gd.is ?r19x3v13, Gd.is ?r19x3v14, Gd.is ?r19x3v15, Gd.is ?r19x3v16, Gd.is ?r19x3v17, Gd.is ?r19x3v18, Gd.is ?r19x3v19]) 20 (by kernel_rfl) (by kernel_rfl) rfl (by kernel_rfl) gds_st ?obl19x3 ?fin19x3
                  case obl19x3 =>
                    simp only [Obls, and_true, List.take_succ_cons, List.take_zero]
                    refine ⟨?_, ?_, ?_, ?_, ?_, ?_, ?_, ?_, ?_, ?_, ?_, ?_, ?_, ?_, ?_, ?_, ?_, ?_, ?_, ?_⟩
                    · intro vs W hW hd
                      simp only [fill, List.setIfInBounds_toArray, List.set_cons_zero, List.set_cons_succ]
                      clear hd
                      go_wp2_with (fail)
                      refine ⟨rfl, rfl, Ch.refl _ _, gds_is rfl ?_⟩
                      (conv => lhs; whnf)
                    · intro vs W hW hd
                      simp only [fill, List.setIfInBounds_toArray, List.set_cons_zero, List.set_cons_succ]
                      clear hd
                      go_wp2_with (fail)
                      refine ⟨rfl, rfl, Ch.refl _ _, gds_is rfl ?_⟩
                      (conv => lhs; whnf)
                    · intro vs W hW hd
                      simp only [fill, List.setIfInBounds_toArray, List.set_cons_zero, List.set_cons_succ]
                      clear hd
                      go_wp2_with (fail)
                      refine ⟨rfl, rfl, Ch.refl _ _, gds_is rfl ?_⟩
                      (conv => lhs; whnf)
                    · intro vs W hW hd
                      simp only [fill, List.setIfInBounds_toArray, List.set_cons_zero, List.set_cons_succ]
                      have d1 := gds_at rfl (hd ⟨1, .data⟩ (by simp) rfl)
                      have d2 := gds_at rfl (hd ⟨2, .data⟩ (by simp) rfl)
                      rw [d1, d2]
                      clear hd d1 d2
                      go_wp2_with (fail)
                      refine ⟨rfl, rfl, Ch.refl _ _, gds_is rfl ?_⟩
                      (conv => lhs; whnf)
                    · intro vs W hW hd
                      simp only [fill, List.setIfInBounds_toArray, List.set_cons_zero, List.set_cons_succ]
                      have d3 := gds_at rfl (hd ⟨3, .data⟩ (by simp) rfl)
                      rw [d3]
                      clear hd d3
                      have hWW := (Ch.refl no WA).drew.same hW
                      have q0 := cell_ch hWW p0
                      have q1 := cell_ch hWW p1
                      go_wp2_with (fail)
                      refine ⟨rfl, rfl, Ch.refl _ _, gds_is rfl ?_⟩
                      (conv => lhs; whnf)
                    · intro vs W hW hd
                      simp only [fill, List.setIfInBounds_toArray, List.set_cons_zero, List.set_cons_succ]
                      clear hd
                      go_wp2_with (fail)
                      refine ⟨rfl, rfl, Ch.refl _ _, gds_is rfl ?_⟩
                      (conv => lhs; whnf)
                    · intro vs W hW hd
                      simp only [fill, List.setIfInBounds_toArray, List.set_cons_zero, List.set_cons_succ]
                      clear hd
                      go_wp2_with (fail)
                      refine ⟨rfl, rfl, Ch.refl _ _, gds_is rfl ?_⟩
                      (conv => lhs; whnf)
                    · intro vs W hW hd
                      simp only [fill, List.setIfInBounds_toArray, List.set_cons_zero, List.set_cons_succ]
                      have d5 := gds_at rfl (hd ⟨5, .data⟩ (by simp) rfl)
                      have d6 := gds_at rfl (hd ⟨6, .data⟩ (by simp) rfl)
                      rw [d5, d6]
                      clear hd d5 d6
                      go_wp2_with (fail)
                      refine ⟨rfl, rfl, Ch.refl _ _, gds_is rfl ?_⟩
                      (conv => lhs; whnf)
                    · intro vs W hW hd
                      simp only [fill, List.setIfInBounds_toArray, List.set_cons_zero, List.set_cons_succ]
                      have d7 := gds_at rfl (hd ⟨7, .data⟩ (by simp) rfl)
                      rw [d7]
                      clear hd d7
                      have hWW := (Ch.refl no WA).drew.same hW
                      have q0 := cell_ch hWW p0
                      have q1 := cell_ch hWW p1
                      go_wp2_with (fail)
                      refine ⟨rfl, rfl, Ch.refl _ _, gds_is rfl ?_⟩
                      (conv => lhs; whnf)
                    · intro vs W hW hd
                      simp only [fill, List.setIfInBounds_toArray, List.set_cons_zero, List.set_cons_succ]
                      have d0 := gds_at rfl (hd ⟨0, .data⟩ (by simp) rfl)
                      have d4 := gds_at rfl (hd ⟨4, .data⟩ (by simp) rfl)
                      have d8 := gds_at rfl (hd ⟨8, .data⟩ (by simp) rfl)
                      rw [d0, d4, d8]
                      clear hd d0 d4 d8
                      have hWW := (Ch.refl no WA).drew.same hW
                      have q0 := cell_ch hWW p0
                      have q1 := cell_ch hWW p1
                      go_wp2_with (have hs := above_at B D hd x W (HDB.out.ch ((Ch.refl no WA).drew.same hW)); rw [HR2.out] at hs; refine hs.mono ?_; rintro e w2 ⟨rfl, hch⟩)
                      exact ⟨rfl, rfl, hch, gds_is rfl rfl⟩
                    · intro vs W hW hd
                      simp only [fill, List.setIfInBounds_toArray, List.set_cons_zero, List.set_cons_succ]
                      have d9 := gds_at rfl (hd ⟨9, .data⟩ (by simp) rfl)
                      rw [d9]
                      clear hd d9
                      go_wp2_with (fail)
                      refine ⟨rfl, rfl, Ch.refl _ _, gds_is rfl ?_⟩
                      (conv => lhs; whnf)
                    · intro vs W hW hd
                      simp only [fill, List.setIfInBounds_toArray, List.set_cons_zero, List.set_cons_succ]
                      have d10 := gds_at rfl (hd ⟨10, .guard⟩ (by simp) rfl)
                      rw [d10]
                      clear hd d10
                      go_wp2_with (fail)
                      refine ⟨rfl, rfl, Ch.refl _ _, gds_is rfl ?_⟩
                      (conv => lhs; whnf)
                    · intro vs W hW hd
                      simp only [fill, List.setIfInBounds_toArray, List.set_cons_zero, List.set_cons_succ]
                      have d10 := gds_at rfl (hd ⟨10, .guard⟩ (by simp) rfl)
                      rw [d10]
                      clear hd d10
                      go_wp2_with (fail)
                      refine ⟨rfl, rfl, Ch.refl _ _, gds_is rfl ?_⟩
                      (conv => lhs; whnf)
                    · intro vs W hW hd
                      simp only [fill, List.setIfInBounds_toArray, List.set_cons_zero, List.set_cons_succ]
                      have d10 := gds_at rfl (hd ⟨10, .guard⟩ (by simp) rfl)
                      have d11 := gds_at rfl (hd ⟨11, .data⟩ (by simp) rfl)
                      have d12 := gds_at rfl (hd ⟨12, .data⟩ (by simp) rfl)
                      rw [d10, d11, d12]
                      clear hd d10 d11 d12
                      go_wp2_with (fail)
                      refine ⟨rfl, rfl, Ch.refl _ _, gds_is rfl ?_⟩
                      (conv => lhs; whnf)
                    · intro vs W hW hd
                      simp only [fill, List.setIfInBounds_toArray, List.set_cons_zero, List.set_cons_succ]
                      have d10 := gds_at rfl (hd ⟨10, .guard⟩ (by simp) rfl)
                      have d13 := gds_at rfl (hd ⟨13, .data⟩ (by simp) rfl)
                      rw [d10, d13]
                      clear hd d10 d13
                      have hWW := (Ch.refl no WA).drew.same hW
                      have q0 := cell_ch hWW p0
                      have q1 := cell_ch hWW p1
                      go_wp2_with (fail)
                      refine ⟨rfl, rfl, Ch.refl _ _, gds_is rfl ?_⟩
                      (conv => lhs; whnf)
                    · intro vs W hW hd
                      simp only [fill, List.setIfInBounds_toArray, List.set_cons_zero, List.set_cons_succ]
                      have d10 := gds_at rfl (hd ⟨10, .guard⟩ (by simp) rfl)
                      rw [d10]
                      clear hd d10
                      go_wp2_with (fail)
                      refine ⟨rfl, rfl, Ch.refl _ _, gds_is rfl ?_⟩
                      (conv => lhs; whnf)
                    · intro vs W hW hd
                      simp only [fill, List.setIfInBounds_toArray, List.set_cons_zero, List.set_cons_succ]
                      have d10 := gds_at rfl (hd ⟨10, .guard⟩ (by simp) rfl)
                      rw [d10]
                      clear hd d10
                      go_wp2_with (fail)
                      refine ⟨rfl, rfl, Ch.refl _ _, gds_is rfl ?_⟩
                      (conv => lhs; whnf)
                    · intro vs W hW hd
                      simp only [fill, List.setIfInBounds_toArray, List.set_cons_zero, List.set_cons_succ]
                      have d10 := gds_at rfl (hd ⟨10, .guard⟩ (by simp) rfl)
                      have d15 := gds_at rfl (hd ⟨15, .data⟩ (by simp) rfl)
                      have d16 := gds_at rfl (hd ⟨16, .data⟩ (by simp) rfl)
                      rw [d10, d15, d16]
                      clear hd d10 d15 d16
                      go_wp2_with (fail)
                      refine ⟨rfl, rfl, Ch.refl _ _, gds_is rfl ?_⟩
                      (conv => lhs; whnf)
                    · intro vs W hW hd
                      simp only [fill, List.setIfInBounds_toArray, List.set_cons_zero, List.set_cons_succ]
                      have d10 := gds_at rfl (hd ⟨10, .guard⟩ (by simp) rfl)
                      have d17 := gds_at rfl (hd ⟨17, .data⟩ (by simp) rfl)
                      rw [d10, d17]
                      clear hd d10 d17
                      have hWW := (Ch.refl no WA).drew.same hW
                      have q0 := cell_ch hWW p0
                      have q1 := cell_ch hWW p1
                      go_wp2_with (fail)
                      refine ⟨rfl, rfl, Ch.refl _ _, gds_is rfl ?_⟩
                      (conv => lhs; whnf)
                    · intro vs W hW hd
                      simp only [fill, List.setIfInBounds_toArray, List.set_cons_zero, List.set_cons_succ]
                      have d10 := gds_at rfl (hd ⟨10, .guard⟩ (by simp) rfl)
                      have d14 := gds_at rfl (hd ⟨14, .data⟩ (by simp) rfl)
                      have d18 := gds_at rfl (hd ⟨18, .data⟩ (by simp) rfl)
                      rw [d10, d14, d18]
                      clear hd d10 d14 d18
                      go_wp2_with (fail)
                      refine ⟨rfl, rfl, Ch.refl _ _, gds_is rfl ?_⟩
                      (conv => lhs; whnf)
                  case fin19x3 =>
                    intro vs W hW hd
                    simp only [fill, List.setIfInBounds_toArray, List.set_cons_zero, List.set_cons_succ, List.take_succ_cons, List.take_zero, List.drop_succ_cons, List.drop_zero]
                    have d0 := gds_at rfl (hd 0 (by omega))
                    have d1 := gds_at rfl (hd 1 (by omega))
                    have d2 := gds_at rfl (hd 2 (by omega))
                    have d3 := gds_at rfl (hd 3 (by omega))
                    have d4 := gds_at rfl (hd 4 (by omega))
                    have d5 := gds_at rfl (hd 5 (by omega))
                    have d6 := gds_at rfl (hd 6 (by omega))
                    have d7 := gds_at rfl (hd 7 (by omega))
                    have d8 := gds_at rfl (hd 8 (by omega))
                    have d9 := gds_at rfl (hd 9 (by omega))
                    have d10 := gds_at rfl (hd 10 (by omega))
                    have d11 := gds_at rfl (hd 11 (by omega))
                    have d12 := gds_at rfl (hd 12 (by omega))
                    have d13 := gds_at rfl (hd 13 (by omega))
                    have d14 := gds_at rfl (hd 14 (by omega))
                    have d15 := gds_at rfl (hd 15 (by omega))
                    have d16 := gds_at rfl (hd 16 (by omega))
                    have d17 := gds_at rfl (hd 17 (by omega))
                    have d18 := gds_at rfl (hd 18 (by omega))
                    have d19 := gds_at rfl (hd 19 (by omega))
                    rw [d0, d1, d2, d3, d4, d5, d6, d7, d8, d9, d10, d11, d12, d13, d14, d15, d16, d17, d18, d19]
                    clear hd d0 d1 d2 d3 d4 d5 d6 d7 d8 d9 d10 d11 d12 d13 d14 d15 d16 d17 d18 d19
                    have HW3 := Lib.hid ((Ch.refl no WA).drew.same hW)
                    go_wp2_with fail
                    go_roundw
                    case rel => exact ⟨m + 1, bl + 1, by omega, by go_num, by go_num, Lib.hid (HI.out.next HWA.out HW3.out HMK.out HXM.out (by rw [HR1.out]; simp))⟩
                    case measure => simp [intOf]; omega
            | false =>
              refine wp_region_tail (G := gds [Gd.is ?r17x4v0, Gd.is ?r17x4v1, Gd.is ?r17x4v2, Gd.is ?r17x4v3, Gd.is ?r17x4v4, Gd.is ?r17x4v5, Gd.is ?r17x4v6, Gd.is ?r17x4v7, Gd.is ?r17x4v8]) 9 (by kernel_rfl) (by kernel_rfl) rfl (by kernel_rfl) gds_st ?obl17x4 ?fin17x4
              case obl17x4 =>
                simp only [Obls, and_true, List.take_succ_cons, List.take_zero]
                refine ⟨?_, ?_, ?_, ?_, ?_, ?_, ?_, ?_, ?_⟩
                · intro vs W hW hd
                  simp only [fill, List.setIfInBounds_toArray, List.set_cons_zero, List.set_cons_succ]
                  clear hd
                  go_wp2_with (fail)
                  refine ⟨rfl, rfl, Ch.refl _ _, gds_is rfl ?_⟩
                  (conv => lhs; whnf)
                · intro vs W hW hd
                  simp only [fill, List.setIfInBounds_toArray, List.set_cons_zero, List.set_cons_succ]
                  clear hd
                  go_wp2_with (fail)
                  refine ⟨rfl, rfl, Ch.refl _ _, gds_is rfl ?_⟩
                  (conv => lhs; whnf)
                · intro vs W hW hd
                  simp only [fill, List.setIfInBounds_toArray, List.set_cons_zero, List.set_cons_succ]
                  clear hd
                  go_wp2_with (fail)
                  refine ⟨rfl, rfl, Ch.refl _ _, gds_is rfl ?_⟩
                  (conv => lhs; whnf)
                · intro vs W hW hd
                  simp only [fill, List.setIfInBounds_toArray, List.set_cons_zero, List.set_cons_succ]
                  have d1 := gds_at rfl (hd ⟨1, .data⟩ (by simp) rfl)
                  have d2 := gds_at rfl (hd ⟨2, .data⟩ (by simp) rfl)
                  rw [d1, d2]
                  clear hd d1 d2
                  go_wp2_with (fail)
                  refine ⟨rfl, rfl, Ch.refl _ _, gds_is rfl ?_⟩
                  (conv => lhs; whnf)
                · intro vs W hW hd
                  simp only [fill, List.setIfInBounds_toArray, List.set_cons_zero, List.set_cons_succ]
                  have d3 := gds_at rfl (hd ⟨3, .data⟩ (by simp) rfl)
                  rw [d3]
                  clear hd d3
                  have hWW := (Ch.refl no wr).drew.same hW
                  have q0 := cell_ch hWW p0
                  have q1 := cell_ch hWW p1
                  go_wp2_with (fail)
                  refine ⟨rfl, rfl, Ch.refl _ _, gds_is rfl ?_⟩
                  (conv => lhs; whnf)
                · intro vs W hW hd
                  simp only [fill, List.setIfInBounds_toArray, List.set_cons_zero, List.set_cons_succ]
                  clear hd
                  go_wp2_with (fail)
                  refine ⟨rfl, rfl, Ch.refl _ _, gds_is rfl ?_⟩
                  (conv => lhs; whnf)
                · intro vs W hW hd
                  simp only [fill, List.setIfInBounds_toArray, List.set_cons_zero, List.set_cons_succ]
                  clear hd
                  go_wp2_with (fail)
                  refine ⟨rfl, rfl, Ch.refl _ _, gds_is rfl ?_⟩
                  (conv => lhs; whnf)
                · intro vs W hW hd
                  simp only [fill, List.setIfInBounds_toArray, List.set_cons_zero, List.set_cons_succ]
                  have d5 := gds_at rfl (hd ⟨5, .data⟩ (by simp) rfl)
                  have d6 := gds_at rfl (hd ⟨6, .data⟩ (by simp) rfl)
                  rw [d5, d6]
                  clear hd d5 d6
                  go_wp2_with (fail)
                  refine ⟨rfl, rfl, Ch.refl _ _, gds_is rfl ?_⟩
                  (conv => lhs; whnf)
                · intro vs W hW hd
                  simp only [fill, List.setIfInBounds_toArray, List.set_cons_zero, List.set_cons_succ]
                  have d7 := gds_at rfl (hd ⟨7, .data⟩ (by simp) rfl)
                  rw [d7]
                  clear hd d7
                  have hWW := (Ch.refl no wr).drew.same hW
                  have q0 := cell_ch hWW p0
                  have q1 := cell_ch hWW p1
                  go_wp2_with (fail)
                  refine ⟨rfl, rfl, Ch.refl _ _, gds_is rfl ?_⟩
                  (conv => lhs; whnf)
              case fin17x4 =>
                intro vs W hW hd
                simp only [fill, List.setIfInBounds_toArray, List.set_cons_zero, List.set_cons_succ, List.take_succ_cons, List.take_zero, List.drop_succ_cons, List.drop_zero]
                have d0 := gds_at rfl (hd 0 (by omega))
                have d1 := gds_at rfl (hd 1 (by omega))
                have d2 := gds_at rfl (hd 2 (by omega))
                have d3 := gds_at rfl (hd 3 (by omega))
                have d4 := gds_at rfl (hd 4 (by omega))
                have d5 := gds_at rfl (hd 5 (by omega))
                have d6 := gds_at rfl (hd 6 (by omega))
                have d7 := gds_at rfl (hd 7 (by omega))
                have d8 := gds_at rfl (hd 8 (by omega))
                rw [d0, d1, d2, d3, d4, d5, d6, d7, d8]
                clear hd d0 d1 d2 d3 d4 d5 d6 d7 d8
                go_wp2_with (have hs1 := above_at B D x hd W (HI.out.dag.ch ((Ch.refl no wr).drew.same hW)); rw [HR1.out] at hs1; refine hs1.mono ?_; rintro e WA ⟨rfl, hch⟩; have HWA := Lib.hid (((Ch.refl no wr).drew.same hW).then_ hch); clear hch hs1)
                have HDB := Lib.hid (HI.out.dag.ch HWA.out); have HCB := Lib.hid (HI.out.ch.then_ HWA.out)
                have p0 := cell_ch HWA.out p0; have p1 := cell_ch HWA.out p1
                obtain ⟨r2, hr2⟩ : ∃ r, aboveB D hd x = r := ⟨_, rfl⟩
                have HR2 := Lib.hid hr2
                have HWA2 := Lib.hid (Ch.refl no WA)
                clear hr2
                cases r2 with
                | true =>
                  have hbn : (hd.toList == x.toList) = true := beq_yes (HHD.out (aboveB_iff.1 HR2.out).2.2)
                  have hbn2 := beq_yes (HHD.out (aboveB_iff.1 HR2.out).2.2).symm
                  refine wp_region_tail9 (G := gds [Gd.is ?r19x5v0, Gd.is ?r19x5v1, Gd.is ?r19x5v2, Gd.is ?r19x5v3, Gd.is ?r19x5v4, Gd.is ?r19x5v5, Gd.is ?r19x5v6, Gd.is ?r19x5v7, Gd.is ?r19x5v8, Gd.is (.bool true), Gd.is ?r19x5v10, Gd.is ?r19x5v11, Gd.is ?r19x5v12, Gd.is ?r19x5v13, Gd.is ?r19x5v14, Gd.is ?r19x5v15, Gd.is ?r19x5v16, Gd.is ?r19x5v17, Gd.is ?r19x5v18, Gd.is ?r19x5v19]) 20 (by kernel_rfl) (by kernel_rfl) rfl (by kernel_rfl) gds_st ?obl19x5 ?fin19x5
                  case obl19x5 =>
                    simp only [Obls, and_true, List.take_succ_cons, List.take_zero]
                    refine ⟨?_, ?_, ?_, ?_, ?_, ?_, ?_, ?_, ?_, ?_, ?_, ?_, ?_, ?_, ?_, ?_, ?_, ?_, ?_, ?_⟩
                    · intro vs W hW hd
                      simp only [fill, List.setIfInBounds_toArray, List.set_cons_zero, List.set_cons_succ]
                      clear hd
                      go_wp2_with (fail)
                      refine ⟨rfl, rfl, Ch.refl _ _, gds_is rfl ?_⟩
                      (conv => lhs; whnf)
                    · intro vs W hW hd
                      simp only [fill, List.setIfInBounds_toArray, List.set_cons_zero, List.set_cons_succ]
                      clear hd
                      go_wp2_with (fail)
                      refine ⟨rfl, rfl, Ch.refl _ _, gds_is rfl ?_⟩
                      (conv => lhs; whnf)
                    · intro vs W hW hd
                      simp only [fill, List.setIfInBounds_toArray, List.set_cons_zero, List.set_cons_succ]
                      clear hd
                      go_wp2_with (fail)
                      refine ⟨rfl, rfl, Ch.refl _ _, gds_is rfl ?_⟩
                      (conv => lhs; whnf)
                    · intro vs W hW hd
                      simp only [fill, List.setIfInBounds_toArray, List.set_cons_zero, List.set_cons_succ]
                      have d1 := gds_at rfl (hd ⟨1, .data⟩ (by simp) rfl)
                      have d2 := gds_at rfl (hd ⟨2, .data⟩ (by simp) rfl)
                      rw [d1, d2]
                      clear hd d1 d2
                      go_wp2_with (fail)
                      refine ⟨rfl, rfl, Ch.refl _ _, gds_is rfl ?_⟩
                      (conv => lhs; whnf)
                    · intro vs W hW hd
                      simp only [fill, List.setIfInBounds_toArray, List.set_cons_zero, List.set_cons_succ]
                      have d3 := gds_at rfl (hd ⟨3, .data⟩ (by simp) rfl)
                      rw [d3]
                      clear hd d3
                      have hWW := (Ch.refl no WA).drew.same hW
                      have q0 := cell_ch hWW p0
                      have q1 := cell_ch hWW p1
                      go_wp2_with (fail)
                      refine ⟨rfl, rfl, Ch.refl _ _, gds_is rfl ?_⟩
                      (conv => lhs; whnf)
                    · intro vs W hW hd
                      simp only [fill, List.setIfInBounds_toArray, List.set_cons_zero, List.set_cons_succ]
                      clear hd
                      go_wp2_with (fail)
                      refine ⟨rfl, rfl, Ch.refl _ _, gds_is rfl ?_⟩
                      (conv => lhs; whnf)
                    · intro vs W hW hd
                      simp only [fill, List.setIfInBounds_toArray, List.set_cons_zero, List.set_cons_succ]
                      clear hd
                      go_wp2_with (fail)
                      refine ⟨rfl, rfl, Ch.refl _ _, gds_is rfl ?_⟩
                      (conv => lhs; whnf)
                    · intro vs W hW hd
                      simp only [fill, List.setIfInBounds_toArray, List.set_cons_zero, List.set_cons_succ]
                      have d5 := gds_at rfl (hd ⟨5, .data⟩ (by simp) rfl)
                      have d6 := gds_at rfl (hd ⟨6, .data⟩ (by simp) rfl)
                      rw [d5, d6]
                      clear hd d5 d6
                      go_wp2_with (fail)
                      refine ⟨rfl, rfl, Ch.refl _ _, gds_is rfl ?_⟩
                      (conv => lhs; whnf)
                    · intro vs W hW hd
                      simp only [fill, List.setIfInBounds_toArray, List.set_cons_zero, List.set_cons_succ]
                      have d7 := gds_at rfl (hd ⟨7, .data⟩ (by simp) rfl)
                      rw [d7]
                      clear hd d7
                      have hWW := (Ch.refl no WA).drew.same hW
                      have q0 := cell_ch hWW p0
                      have q1 := cell_ch hWW p1
                      go_wp2_with (fail)
                      refine ⟨rfl, rfl, Ch.refl _ _, gds_is rfl ?_⟩
                      (conv => lhs; whnf)
                    · intro vs W hW hd
                      simp only [fill, List.setIfInBounds_toArray, List.set_cons_zero, List.set_cons_succ]
                      have d0 := gds_at rfl (hd ⟨0, .data⟩ (by simp) rfl)
                      have d4 := gds_at rfl (hd ⟨4, .data⟩ (by simp) rfl)
                      have d8 := gds_at rfl (hd ⟨8, .data⟩ (by simp) rfl)
                      rw [d0, d4, d8]
                      clear hd d0 d4 d8
                      have hWW := (Ch.refl no WA).drew.same hW
                      have q0 := cell_ch hWW p0
                      have q1 := cell_ch hWW p1
                      go_wp2_with (have hs := above_at B D hd x W (HDB.out.ch ((Ch.refl no WA).drew.same hW)); rw [HR2.out] at hs; refine hs.mono ?_; rintro e w2 ⟨rfl, hch⟩)
                      exact ⟨rfl, rfl, hch, gds_is rfl rfl⟩
                    · intro vs W hW hd
                      simp only [fill, List.setIfInBounds_toArray, List.set_cons_zero, List.set_cons_succ]
                      have d9 := gds_at rfl (hd ⟨9, .data⟩ (by simp) rfl)
                      rw [d9]
                      clear hd d9
                      go_wp2_with (fail)
                      refine ⟨rfl, rfl, Ch.refl _ _, gds_is rfl ?_⟩
                      (conv => lhs; whnf)
                    · intro vs W hW hd
                      simp only [fill, List.setIfInBounds_toArray, List.set_cons_zero, List.set_cons_succ]
                      have d10 := gds_at rfl (hd ⟨10, .guard⟩ (by simp) rfl)
                      rw [d10]
                      clear hd d10
                      go_wp2_with (fail)
                      refine ⟨rfl, rfl, Ch.refl _ _, gds_is rfl ?_⟩
                      (conv => lhs; whnf)
                    · intro vs W hW hd
                      simp only [fill, List.setIfInBounds_toArray, List.set_cons_zero, List.set_cons_succ]
                      have d10 := gds_at rfl (hd ⟨10, .guard⟩ (by simp) rfl)
                      rw [d10]
                      clear hd d10
                      go_wp2_with (fail)
                      refine ⟨rfl, rfl, Ch.refl _ _, gds_is rfl ?_⟩
                      (conv => lhs; whnf)
                    · intro vs W hW hd
                      simp only [fill, List.setIfInBounds_toArray, List.set_cons_zero, List.set_cons_succ]
                      have d10 := gds_at rfl (hd ⟨10, .guard⟩ (by simp) rfl)
                      have d11 := gds_at rfl (hd ⟨11, .data⟩ (by simp) rfl)
                      have d12 := gds_at rfl (hd ⟨12, .data⟩ (by simp) rfl)
                      rw [d10, d11, d12]
                      clear hd d10 d11 d12
                      go_wp2_with (fail)
                      refine ⟨rfl, rfl, Ch.refl _ _, gds_is rfl ?_⟩
                      (conv => lhs; whnf)
                    · intro vs W hW hd
                      simp only [fill, List.setIfInBounds_toArray, List.set_cons_zero, List.set_cons_succ]
                      have d10 := gds_at rfl (hd ⟨10, .guard⟩ (by simp) rfl)
                      have d13 := gds_at rfl (hd ⟨13, .data⟩ (by simp) rfl)
                      rw [d10, d13]
                      clear hd d10 d13
                      have hWW := (Ch.refl no WA).drew.same hW
                      have q0 := cell_ch hWW p0
                      have q1 := cell_ch hWW p1
                      go_wp2_with (fail)
                      refine ⟨rfl, rfl, Ch.refl _ _, gds_is rfl ?_⟩
                      (conv => lhs; whnf)
                    · intro vs W hW hd
                      simp only [fill, List.setIfInBounds_toArray, List.set_cons_zero, List.set_cons_succ]
                      have d10 := gds_at rfl (hd ⟨10, .guard⟩ (by simp) rfl)
                      rw [d10]
                      clear hd d10
                      go_wp2_with (fail)
                      refine ⟨rfl, rfl, Ch.refl _ _, gds_is rfl ?_⟩
                      (conv => lhs; whnf)
                    · intro vs W hW hd
                      simp only [fill, List.setIfInBounds_toArray, List.set_cons_zero, List.set_cons_succ]
                      have d10 := gds_at rfl (hd ⟨10, .guard⟩ (by simp) rfl)
                      rw [d10]
                      clear hd d10
                      go_wp2_with (fail)
                      refine ⟨rfl, rfl, Ch.refl _ _, gds_is rfl ?_⟩
                      (conv => lhs; whnf)
                    · intro vs W hW hd
                      simp only [fill, List.setIfInBounds_toArray, List.set_cons_zero, List.set_cons_succ]
                      have d10 := gds_at rfl (hd ⟨10, .guard⟩ (by simp) rfl)
                      have d15 := gds_at rfl (hd ⟨15, .data⟩ (by simp) rfl)
                      have d16 := gds_at rfl (hd ⟨16, .data⟩ (by simp) rfl)
                      rw [d10, d15, d16]
                      clear hd d10 d15 d16
                      go_wp2_with (fail)
                      refine ⟨rfl, rfl, Ch.refl _ _, gds_is rfl ?_⟩
                      (conv => lhs; whnf)
                    · intro vs W hW hd
                      simp only [fill, List.setIfInBounds_toArray, List.set_cons_zero, List.set_cons_succ]
                      have d10 := gds_at rfl (hd ⟨10, .guard⟩ (by simp) rfl)
                      have d17 := gds_at rfl (hd ⟨17, .data⟩ (by simp) rfl)
                      rw [d10, d17]
                      clear hd d10 d17
                      have hWW := (Ch.refl no WA).drew.same hW
                      have q0 := cell_ch hWW p0
                      have q1 := cell_ch hWW p1
                      go_wp2_with (fail)
                      refine ⟨rfl, rfl, Ch.refl _ _, gds_is rfl ?_⟩
                      (conv => lhs; whnf)
                    · intro vs W hW hd
                      simp only [fill, List.setIfInBounds_toArray, List.set_cons_zero, List.set_cons_succ]
                      have d10 := gds_at rfl (hd ⟨10, .guard⟩ (by simp) rfl)
                      have d14 := gds_at rfl (hd ⟨14, .data⟩ (by simp) rfl)
                      have d18 := gds_at rfl (hd ⟨18, .data⟩ (by simp) rfl)
                      rw [d10, d14, d18]
                      clear hd d10 d14 d18
                      go_wp2_with (fail)
                      refine ⟨rfl, rfl, Ch.refl _ _, gds_is rfl ?_⟩
                      (conv => lhs; whnf)
                  case fin19x5 =>
                    intro vs W hW hd
                    simp only [fill, List.setIfInBounds_toArray, List.set_cons_zero, List.set_cons_succ, List.take_succ_cons, List.take_zero, List.drop_succ_cons, List.drop_zero]
                    have d0 := gds_at rfl (hd 0 (by omega))
                    have d1 := gds_at rfl (hd 1 (by omega))
                    have d2 := gds_at rfl (hd 2 (by omega))
                    have d3 := gds_at rfl (hd 3 (by omega))
                    have d4 := gds_at rfl (hd 4 (by omega))
                    have d5 := gds_at rfl (hd 5 (by omega))
                    have d6 := gds_at rfl (hd 6 (by omega))
                    have d7 := gds_at rfl (hd 7 (by omega))
                    have d8 := gds_at rfl (hd 8 (by omega))
                    have d9 := gds_at rfl (hd 9 (by omega))
                    have d10 := gds_at rfl (hd 10 (by omega))
                    have d11 := gds_at rfl (hd 11 (by omega))
                    have d12 := gds_at rfl (hd 12 (by omega))
                    have d13 := gds_at rfl (hd 13 (by omega))
                    have d14 := gds_at rfl (hd 14 (by omega))
                    have d15 := gds_at rfl (hd 15 (by omega))
                    have d16 := gds_at rfl (hd 16 (by omega))
                    have d17 := gds_at rfl (hd 17 (by omega))
                    have d18 := gds_at rfl (hd 18 (by omega))
                    have d19 := gds_at rfl (hd 19 (by omega))
                    rw [d0, d1, d2, d3, d4, d5, d6, d7, d8, d9, d10, d11, d12, d13, d14, d15, d16, d17, d18, d19]
                    clear hd d0 d1 d2 d3 d4 d5 d6 d7 d8 d9 d10 d11 d12 d13 d14 d15 d16 d17 d18 d19
                    have HW3 := Lib.hid ((Ch.refl no WA).drew.same hW)
                    go_wp2_with fail
                    go_roundw
                    case rel => exact ⟨m + 1, bl, by omega, by go_num, by go_num, Lib.hid (HI.out.next HWA.out HW3.out HMK.out HXM.out (by rw [HR1.out]; simp))⟩
                    case measure => simp [intOf]; omega
                | false =>
                  refine wp_region_tail9 (G := gds [Gd.is ?r19x6v0, Gd.is ?r19x6v1, Gd.is ?r19x6v2, Gd.is ?r19x6v3, Gd.is ?r19x6v4, Gd.is ?r19x6v5, Gd.is ?r19x6v6, Gd.is ?r19x6v7, Gd.is ?r19x6v8, Gd.is (.bool false), Gd.is ?r19x6v10, Gd.is ?r19x6v11, Gd.is ?r19x6v12, Gd.is ?r19x6v13, Gd.is ?r19x6v14, Gd.is ?r19x6v15, Gd.is ?r19x6v16, Gd.is ?r19x6v17, Gd.is ?r19x6v18, Gd.is ?r19x6v19]) 20 (by kernel_rfl) (by kernel_rfl) rfl (by kernel_rfl) gds_st ?obl19x6 ?fin19x6
                  case obl19x6 =>
                    simp only [Obls, and_true, List.take_succ_cons, List.take_zero]
                    refine ⟨?_, ?_, ?_, ?_, ?_, ?_, ?_, ?_, ?_, ?_, ?_, ?_, ?_, ?_, ?_, ?_, ?_, ?_, ?_, ?_⟩
                    · intro vs W hW hd
                      simp only [fill, List.setIfInBounds_toArray, List.set_cons_zero, List.set_cons_succ]
                      clear hd
                      go_wp2_with (fail)
                      refine ⟨rfl, rfl, Ch.refl _ _, gds_is rfl ?_⟩
                      (conv => lhs; whnf)
                    · intro vs W hW hd
                      simp only [fill, List.setIfInBounds_toArray, List.set_cons_zero, List.set_cons_succ]
                      clear hd
                      go_wp2_with (fail)
                      refine ⟨rfl, rfl, Ch.refl _ _, gds_is rfl ?_⟩
                      (conv => lhs; whnf)
                    · intro vs W hW hd
                      simp only [fill, List.setIfInBounds_toArray, List.set_cons_zero, List.set_cons_succ]
                      clear hd
                      go_wp2_with (fail)
                      refine ⟨rfl, rfl, Ch.refl _ _, gds_is rfl ?_⟩
                      (conv => lhs; whnf)
                    · intro vs W hW hd
                      simp only [fill, List.setIfInBounds_toArray, List.set_cons_zero, List.set_cons_succ]
                      have d1 := gds_at rfl (hd ⟨1, .data⟩ (by simp) rfl)
                      have d2 := gds_at rfl (hd ⟨2, .data⟩ (by simp) rfl)
                      rw [d1, d2]
                      clear hd d1 d2
                      go_wp2_with (fail)
                      refine ⟨rfl, rfl, Ch.refl _ _, gds_is rfl ?_⟩
                      (conv => lhs; whnf)
                    · intro vs W hW hd
                      simp only [fill, List.setIfInBounds_toArray, List.set_cons_zero, List.set_cons_succ]
                      have d3 := gds_at rfl (hd ⟨3, .data⟩ (by simp) rfl)
                      rw [d3]
                      clear hd d3
                      have hWW := (Ch.refl no WA).drew.same hW
                      have q0 := cell_ch hWW p0
                      have q1 := cell_ch hWW p1
                      go_wp2_with (fail)
                      refine ⟨rfl, rfl, Ch.refl _ _, gds_is rfl ?_⟩
                      (conv => lhs; whnf)
                    · intro vs W hW hd
                      simp only [fill, List.setIfInBounds_toArray, List.set_cons_zero, List.set_cons_succ]
                      clear hd
                      go_wp2_with (fail)
                      refine ⟨rfl, rfl, Ch.refl _ _, gds_is rfl ?_⟩
                      (conv => lhs; whnf)
                    · intro vs W hW hd
                      simp only [fill, List.setIfInBounds_toArray, List.set_cons_zero, List.set_cons_succ]
                      clear hd
                      go_wp2_with (fail)
                      refine ⟨rfl, rfl, Ch.refl _ _, gds_is rfl ?_⟩
                      (conv => lhs; whnf)
                    · intro vs W hW hd
                      simp only [fill, List.setIfInBounds_toArray, List.set_cons_zero, List.set_cons_succ]
                      have d5 := gds_at rfl (hd ⟨5, .data⟩ (by simp) rfl)
                      have d6 := gds_at rfl (hd ⟨6, .data⟩ (by simp) rfl)
                      rw [d5, d6]
                      clear hd d5 d6
                      go_wp2_with (fail)
                      refine ⟨rfl, rfl, Ch.refl _ _, gds_is rfl ?_⟩
                      (conv => lhs; whnf)
                    · intro vs W hW hd
                      simp only [fill, List.setIfInBounds_toArray, List.set_cons_zero, List.set_cons_succ]
                      have d7 := gds_at rfl (hd ⟨7, .data⟩ (by simp) rfl)
                      rw [d7]
                      clear hd d7
                      have hWW := (Ch.refl no WA).drew.same hW
                      have q0 := cell_ch hWW p0
                      have q1 := cell_ch hWW p1
                      go_wp2_with (fail)
                      refine ⟨rfl, rfl, Ch.refl _ _, gds_is rfl ?_⟩
                      (conv => lhs; whnf)
                    · intro vs W hW hd
                      simp only [fill, List.setIfInBounds_toArray, List.set_cons_zero, List.set_cons_succ]
                      have d0 := gds_at rfl (hd ⟨0, .data⟩ (by simp) rfl)
                      have d4 := gds_at rfl (hd ⟨4, .data⟩ (by simp) rfl)
                      have d8 := gds_at rfl (hd ⟨8, .data⟩ (by simp) rfl)
                      rw [d0, d4, d8]
                      clear hd d0 d4 d8
                      have hWW := (Ch.refl no WA).drew.same hW
                      have q0 := cell_ch hWW p0
                      have q1 := cell_ch hWW p1
                      go_wp2_with (have hs := above_at B D hd x W (HDB.out.ch ((Ch.refl no WA).drew.same hW)); rw [HR2.out] at hs; refine hs.mono ?_; rintro e w2 ⟨rfl, hch⟩)
                      exact ⟨rfl, rfl, hch, gds_is rfl rfl⟩
                    · intro vs W hW hd
                      simp only [fill, List.setIfInBounds_toArray, List.set_cons_zero, List.set_cons_succ]
                      have d9 := gds_at rfl (hd ⟨9, .data⟩ (by simp) rfl)
                      rw [d9]
                      clear hd d9
                      go_wp2_with (fail)
                      refine ⟨rfl, rfl, Ch.refl _ _, gds_is rfl ?_⟩
                      (conv => lhs; whnf)
                    · intro vs W hW hd
                      simp only [fill, List.setIfInBounds_toArray, List.set_cons_zero, List.set_cons_succ]
                      have d10 := gds_at rfl (hd ⟨10, .guard⟩ (by simp) rfl)
                      rw [d10]
                      clear hd d10
                      go_wp2_with (fail)
                      refine ⟨rfl, rfl, Ch.refl _ _, gds_is rfl ?_⟩
                      (conv => lhs; whnf)
                    · intro vs W hW hd
                      simp only [fill, List.setIfInBounds_toArray, List.set_cons_zero, List.set_cons_succ]
                      have d10 := gds_at rfl (hd ⟨10, .guard⟩ (by simp) rfl)
                      rw [d10]
                      clear hd d10
                      go_wp2_with (fail)
                      refine ⟨rfl, rfl, Ch.refl _ _, gds_is rfl ?_⟩
                      (conv => lhs; whnf)
                    · intro vs W hW hd
                      simp only [fill, List.setIfInBounds_toArray, List.set_cons_zero, List.set_cons_succ]
                      have d10 := gds_at rfl (hd ⟨10, .guard⟩ (by simp) rfl)
                      have d11 := gds_at rfl (hd ⟨11, .data⟩ (by simp) rfl)
                      have d12 := gds_at rfl (hd ⟨12, .data⟩ (by simp) rfl)
                      rw [d10, d11, d12]
                      clear hd d10 d11 d12
                      go_wp2_with (fail)
                      refine ⟨rfl, rfl, Ch.refl _ _, gds_is rfl ?_⟩
                      (conv => lhs; whnf)
                    · intro vs W hW hd
                      simp only [fill, List.setIfInBounds_toArray, List.set_cons_zero, List.set_cons_succ]
                      have d10 := gds_at rfl (hd ⟨10, .guard⟩ (by simp) rfl)
                      have d13 := gds_at rfl (hd ⟨13, .data⟩ (by simp) rfl)
                      rw [d10, d13]
                      clear hd d10 d13
                      have hWW := (Ch.refl no WA).drew.same hW
                      have q0 := cell_ch hWW p0
                      have q1 := cell_ch hWW p1
                      go_wp2_with (fail)
                      refine ⟨rfl, rfl, Ch.refl _ _, gds_is rfl ?_⟩
                      (conv => lhs; whnf)
                    · intro vs W hW hd
                      simp only [fill, List.setIfInBounds_toArray, List.set_cons_zero, List.set_cons_succ]
                      have d10 := gds_at rfl (hd ⟨10, .guard⟩ (by simp) rfl)
                      rw [d10]
                      clear hd d10
                      go_wp2_with (fail)
                      refine ⟨rfl, rfl, Ch.refl _ _, gds_is rfl ?_⟩
                      (conv => lhs; whnf)
                    · intro vs W hW hd
                      simp only [fill, List.setIfInBounds_toArray, List.set_cons_zero, List.set_cons_succ]
                      have d10 := gds_at rfl (hd ⟨10, .guard⟩ (by simp) rfl)
                      rw [d10]
                      clear hd d10
                      go_wp2_with (fail)
                      refine ⟨rfl, rfl, Ch.refl _ _, gds_is rfl ?_⟩
                      (conv => lhs; whnf)
                    · intro vs W hW hd
                      simp only [fill, List.setIfInBounds_toArray, List.set_cons_zero, List.set_cons_succ]
                      have d10 := gds_at rfl (hd ⟨10, .guard⟩ (by simp) rfl)
                      have d15 := gds_at rfl (hd ⟨15, .data⟩ (by simp) rfl)
                      have d16 := gds_at rfl (hd ⟨16, .data⟩ (by simp) rfl)
                      rw [d10, d15, d16]
                      clear hd d10 d15 d16
                      go_wp2_with (fail)
                      refine ⟨rfl, rfl, Ch.refl _ _, gds_is rfl ?_⟩
                      (conv => lhs; whnf)
                    · intro vs W hW hd
                      simp only [fill, List.setIfInBounds_toArray, List.set_cons_zero, List.set_cons_succ]
                      have d10 := gds_at rfl (hd ⟨10, .guard⟩ (by simp) rfl)
                      have d17 := gds_at rfl (hd ⟨17, .data⟩ (by simp) rfl)
                      rw [d10, d17]
                      clear hd d10 d17
                      have hWW := (Ch.refl no WA).drew.same hW
                      have q0 := cell_ch hWW p0
                      have q1 := cell_ch hWW p1
                      go_wp2_with (fail)
                      refine ⟨rfl, rfl, Ch.refl _ _, gds_is rfl ?_⟩
                      (conv => lhs; whnf)
                    · intro vs W hW hd
                      simp only [fill, List.setIfInBounds_toArray, List.set_cons_zero, List.set_cons_succ]
                      have d10 := gds_at rfl (hd ⟨10, .guard⟩ (by simp) rfl)
                      have d14 := gds_at rfl (hd ⟨14, .data⟩ (by simp) rfl)
                      have d18 := gds_at rfl (hd ⟨18, .data⟩ (by simp) rfl)
                      rw [d10, d14, d18]
                      clear hd d10 d14 d18
                      go_wp2_with (fail)
                      refine ⟨rfl, rfl, Ch.refl _ _, gds_is rfl ?_⟩
                      (conv => lhs; whnf)
                  case fin19x6 =>
                    intro vs W hW hd
                    simp only [fill, List.setIfInBounds_toArray, List.set_cons_zero, List.set_cons_succ, List.take_succ_cons, List.take_zero, List.drop_succ_cons, List.drop_zero]
                    have d0 := gds_at rfl (hd 0 (by omega))
                    have d1 := gds_at rfl (hd 1 (by omega))
                    have d2 := gds_at rfl (hd 2 (by omega))
                    have d3 := gds_at rfl (hd 3 (by omega))
                    have d4 := gds_at rfl (hd 4 (by omega))
                    have d5 := gds_at rfl (hd 5 (by omega))
                    have d6 := gds_at rfl (hd 6 (by omega))
                    have d7 := gds_at rfl (hd 7 (by omega))
                    have d8 := gds_at rfl (hd 8 (by omega))
                    have d9 := gds_at rfl (hd 9 (by omega))
                    have d10 := gds_at rfl (hd 10 (by omega))
                    have d11 := gds_at rfl (hd 11 (by omega))
                    have d12 := gds_at rfl (hd 12 (by omega))
                    have d13 := gds_at rfl (hd 13 (by omega))
                    have d14 := gds_at rfl (hd 14 (by omega))
                    have d15 := gds_at rfl (hd 15 (by omega))
                    have d16 := gds_at rfl (hd 16 (by omega))
                    have d17 := gds_at rfl (hd 17 (by omega))
                    have d18 := gds_at rfl (hd 18 (by omega))
                    have d19 := gds_at rfl (hd 19 (by omega))
                    rw [d0, d1, d2, d3, d4, d5, d6, d7, d8, d9, d10, d11, d12, d13, d14, d15, d16, d17, d18, d19]
                    clear hd d0 d1 d2 d3 d4 d5 d6 d7 d8 d9 d10 d11 d12 d13 d14 d15 d16 d17 d18 d19
                    have HW3 := Lib.hid ((Ch.refl no WA).drew.same hW)
                    go_wp2_with fail
                    go_roundw
                    case rel => exact ⟨m + 1, bl, by omega, by go_num, by go_num, Lib.hid (HI.out.next HWA.out HW3.out HMK.out HXM.out (by rw [HR1.out]; simp))⟩
                    case measure => simp [intOf]; omega
          · have HLE : Hid (bl ≠ 0) := Lib.hid (by
              have h1 := HI.out.pos
              rw [List.take_of_length_le (by omega)] at h1
              obtain ⟨y, hy, hr⟩ := has_head HFI.out HWF.out HXI.out
              rw [HHS.out] at hy
              have hp := h1.2 ⟨y, hy, aboveB_iff.2 ⟨has_iff.2 HXI.out, has_iff.2 (mem_heads.1 (by rw [HHS.out]; exact hy)).1, hr⟩⟩
              omega)
            have g0 : ((bl : Int) == 0) = false := by have := HLE.out; rw [beq_eq_false_iff_ne]; omega
            go_wp2_with fail
            go_roundw
            case rel => exact ⟨k + 1, by omega, by go_num, Lib.hid HI.out.ch⟩
            case measure => simp [intOf]; omega
      · obtain ⟨bb, hb1, hb2⟩ : ∃ bb, ((hs.length : Int) == 0) = bb ∧ ((is.length : Int) == 0) = bb := by
          by_cases h0 : hs.length = 0
          · exact ⟨true, by rw [beq_iff_eq]; omega, by have := HEM.out.1 h0; rw [beq_iff_eq]; omega⟩
          · exact ⟨false, by rw [beq_eq_false_iff_ne]; omega, by have : ¬ is.length = 0 := fun h => h0 (HEM.out.2 h); rw [beq_eq_false_iff_ne]; omega⟩
        cases bb with
        | true =>
          go_wp2_with fail
          go_ret
          exact ⟨rfl, HC5.out.then_ HCR.out⟩
        | false =>
          go_wp2_with fail
          go_ret
          exact ⟨rfl, HC5.out.then_ HCR.out⟩
end Go.Proofs.Ytlmcbmgdhpoedaa.Eb
