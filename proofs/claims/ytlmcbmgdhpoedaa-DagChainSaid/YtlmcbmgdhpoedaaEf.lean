/- Who stands one on the other, added from behind: walked. -/
import Derived.Test.YtlmcbmgdhpoedaaDv
import Derived.Test.YtlmcbmgdhpoedaaEd
namespace Go.Proofs.Ytlmcbmgdhpoedaa.Ef
open Go Go.RowKit Go.Proofs.Ytlmcbmgdhpoedaa.Aa Go.Proofs.Ytlmcbmgdhpoedaa.Vw Go.Proofs.Ytlmcbmgdhpoedaa.Mr Go.Proofs.Ytlmcbmgdhpoedaa.Mt Go.Proofs.Ytlmcbmgdhpoedaa.Da Go.Proofs.Ytlmcbmgdhpoedaa.Db Go.Proofs.Ytlmcbmgdhpoedaa.Dc Go.Proofs.Ytlmcbmgdhpoedaa.De Go.Proofs.Ytlmcbmgdhpoedaa.Di Go.Proofs.Ytlmcbmgdhpoedaa.Dk Go.Proofs.Ytlmcbmgdhpoedaa.Dl Go.Proofs.Ytlmcbmgdhpoedaa.Dn Go.Proofs.Ytlmcbmgdhpoedaa.Dr Go.Proofs.Ytlmcbmgdhpoedaa.Dt Go.Proofs.Ytlmcbmgdhpoedaa.Du Go.Proofs.Ytlmcbmgdhpoedaa.Dv Go.Proofs.Ytlmcbmgdhpoedaa.Ed
set_option linter.unusedVariables false
set_option linter.unusedSimpArgs false

theorem row_one {w : World} {b : Nat} {y : Nm} (h : w.heap[b]? = some (.cells #[.string y] 30 (0, 0))) : El.str.Row w (some ⟨b, 0, none⟩) 1 [y] := by
  refine El.Row.flat_of (by simp) (by unfold maxLen; omega) (fun h => (by cases h)) (fun k x hk => ⟨_, rfl, ?_⟩)
  have hk0 : k = 0 := by
    have := (List.getElem?_eq_some_iff.1 hk).1
    simp at this; omega
  subst hk0
  have e : y = x := by simpa using hk
  subst e
  have e2 : (Addr.add ⟨b, 0, none⟩ 0) = ⟨b, 0, none⟩ := by unfold Addr.add; simp
  rw [e2, bCell h]
  rfl
/-- One byte as a string. -/
theorem conv_one (w : World) (k : Nat) (hk : k ≤ 122) :
    (convert 32 9 (.slice (some ⟨w.heap.size, 0, none⟩) 1 1)).run Try.prog (w.alloc (.cells #[.int .u8 ((122 - k : Nat) : Int)] 5)) = .ok (.string (wn k)) (w.alloc (.cells #[.int .u8 ((122 - k : Nat) : Int)] 5)) := by
  have := run_convert_bytes_back (P := Try.prog) (w.alloc (.cells #[.int .u8 ((122 - k : Nat) : Int)] 5)) 32 9 5 ⟨w.heap.size, 0, none⟩ 1 [UInt8.ofNat (122 - k)] Try.underlying32 Try.underlying5 Try.underlying9 (fun j hj => by
    simp only [List.length_singleton] at hj
    have hj0 : j = 0 := by omega
    subst hj0
    have e2 : (Addr.add ⟨w.heap.size, 0, none⟩ 0) = ⟨w.heap.size, 0, none⟩ := by unfold Addr.add; simp
    rw [e2, bCell (bNew w _)]
    have : (UInt8.ofNat (122 - k)).toNat = 122 - k := by
      rw [UInt8.toNat_ofNat']
      omega
    simp [this])
  exact this
/-- Between two rounds, downwards. -/
structure CS (w wr : World) (B : Nat) (A : Option Addr) (c n s : Nat) : Prop where
  dag : DagV wr B (chainS n s)
  ch : Ch no w wr
  row : El.str.Row wr A c (wants n)
theorem wants_get {n i : Nat} (h : i < (wants n).length) : (wants n)[i] = wn i := by simp [wants]
set_option maxRecDepth 100000 in
set_option maxHeartbeats 8000000 in
theorem chain_of (m : Nat) (w : World) (hm : m ≤ 255) :
    Calls Try.prog 4 #[.int .u8 m] w fun e w' => e = .returned (.bool true) ∧ Ch no w w' := by
  obtain ⟨n, hn⟩ : ∃ n, 1 + m % 12 = n := ⟨_, rfl⟩
  have hn1 : 0 < n := by omega
  have hn2 : n < 13 := by omega
  have hni : (1 : Int) + (m : Int) % 12 = (n : Int) := by omega
  have hnt : (1 : Int) + (m : Int).tmod 12 = (n : Int) := by rw [Int.tmod_eq_emod_of_nonneg (by omega)]; exact hni
  go_enter Try.func4, Try.ntmps4
  go_wp2_with fail
  refine (awake_of w).mono ?_
  rintro e w1 ⟨rfl, hc1⟩
  have HC1 := Lib.hid hc1; clear hc1
  go_wp2_with fail
  refine (new_of w1).mono ?_
  rintro e w2 ⟨rfl, hd2, hc2⟩
  obtain ⟨B, hB⟩ : ∃ B, w1.heap.size = B := ⟨_, rfl⟩
  rw [hB] at hd2 ⊢
  have HB : Hid (w.heap.size ≤ B) := Lib.hid (by have := HC1.out.size; omega)
  have HD2 := Lib.hid hd2; have HC2 := Lib.hid (HC1.out.then_ hc2); have HBW := Lib.hid hc2.size; have HBB := Lib.hid hB
  clear hd2 hc2 hB
  obtain ⟨i0, hi, hz0, hz1, hz2⟩ := info_parts infoStr
  have HO0 : Hid (OwnS w2 w2.heap.size (.slice none 0 0) (wants 0)) := Lib.hid ⟨by simp [wants], .inl ⟨rfl, by simp [wants]⟩⟩
  go_wp2_with fail
  go_loopw [6, 7] (fun v i wr => ∃ k : Nat, k ≤ n ∧ i = .int .i64 k ∧ Hid (OwnS wr w2.heap.size v (wants k)) ∧ Hid (Ch no w2 wr)) (fun _ i _ => n - (intOf i).toNat)
  case atStart => exact ⟨0, by omega, rfl, HO0, Lib.hid (Ch.refl _ _)⟩
  case round =>
    clear HO0
    obtain ⟨k, hk, rfl, HO, HCR⟩ := hrel
    by_cases hlt : k < n
    · have hcv := conv_one wr k (by omega)
      have hsub : (122 : Int) - (k : Int) = ((122 - k : Nat) : Int) := by omega
      obtain ⟨v7, hv7⟩ : ∃ v7, 122 - k = v7 := ⟨_, rfl⟩
      rw [hv7] at hcv hsub
      have h7 : v7 ≤ 122 := by omega
      clear hv7
      have hcx : Ch no wr ((wr.alloc (.cells #[.int .u8 (v7 : Nat)] 5)).alloc (.cells #[.string (wn k)] 30)) := ((Ch.refl no wr).alloc _).alloc _
      have hbx : ((wr.alloc (.cells #[.int .u8 (v7 : Nat)] 5)).alloc (.cells #[.string (wn k)] 30)).heap[wr.heap.size + 1]? = some (.cells #[.string (wn k)] 30 (0, 0)) := by
        have := bNew (wr.alloc (.cells #[.int .u8 (v7 : Nat)] 5)) (.cells #[.string (wn k)] 30)
        simpa using this
      have HRX := Lib.hid (row_one hbx)
      have HOX := Lib.hid (own_ch HO.out hcx (fun _ _ => no_not _))
      have HCX := Lib.hid hcx
      clear hcx hbx
      go_wp2_with (at_builtin; refine app_row (fun _ => rfl) rfl _ _ 27 rfl w2.heap.size 30 i0 _ 16 Try.underlying27 hi hz0 hz1 hz2 rfl _ (wants k).length _ rfl HOX.out (some ⟨wr.heap.size + 1, 0, none⟩) 1 [wn k] rfl HRX.out (by rw [wants_len]; simp; unfold maxLen; omega) (by rw [wants_len]; simp; omega) (by have := HCR.out.size; simp; omega) ?_; intro v9 w9 hown9 hgrow9 _; have HO9 := Lib.hid hown9; have HG9 := Lib.hid hgrow9; clear hown9 hgrow9)
      go_roundw
      case rel =>
        refine ⟨k + 1, by omega, by go_num, Lib.hid ?_, Lib.hid ?_⟩
        · unfold OwnS
          rw [wants_next, List.length_append, List.map_append]
          exact HO9.out
        · exact Vw.Ch.grown_new (HCR.out.then_ HCX.out) HG9.out (fun j hj => own_ge HO.out j hj)
      case measure => simp [intOf]; omega
    · obtain ⟨A, c, hvv⟩ := own_shape HO.out
      have hkn : n = k := by omega
      subst hkn
      subst hvv
      have HRW := Lib.hid (row_of_own HO.out)
      have HDW := Lib.hid (HD2.out.ch HCR.out)
      have HCW := Lib.hid (HC2.out.then_ HCR.out)
      have HSB : Hid (B + 3 < wr.heap.size) := Lib.hid HDW.out.lt
      clear HO HCR HD2 HC2
      obtain ⟨ad, rfl, _⟩ := HRW.out.flat_at 0 (by rw [wants_len]; omega)
      have HI0 : Hid (CS w wr B (some ad) c n 0) := Lib.hid ⟨HDW.out, HCW.out, HRW.out⟩
      have hlw : (wants n).length ≤ 9223372036854775807 := by rw [wants_len]; omega
      have HWL := Lib.hid (wants_len n)
      clear HDW HCW HRW hlt hk hi hz0 hz1 hz2
      go_wp2_with fail
      go_loopw [8] (fun i wz => ∃ s j : Nat, s + j + 1 = n ∧ i = .int .i64 j ∧ Hid (CS w wz B (some ad) c n s)) (fun i _ => (intOf i).toNat)
      case atStart => exact ⟨0, n - 1, by omega, by congr 1; omega, HI0⟩
      case round =>
        clear HI0
        obtain ⟨s, j, hsj, rfl, HI⟩ := hrel
        by_cases hj : 0 < j
        · obtain ⟨j1, hj1⟩ : ∃ j1, j - 1 = j1 := ⟨_, rfl⟩
          have hji : (j : Int) - 1 = (j1 : Int) := by omega
          obtain ⟨s1, hs1⟩ : ∃ s1, s + 1 = s1 := ⟨_, rfl⟩
          have hnj : (n : Int) - (j : Int) = (s1 : Int) := by omega
          have e1 : n - 1 - s = j := by omega
          have e2 : n - 1 - s - 1 = j1 := by omega
          have hst := chain_step n hn2 s (by omega)
          have hdef : chainS n (s + 1) = ((chainS n s).add (wn (n - 1 - s)) [wn (n - 1 - s - 1)]).1 := rfl
          rw [hs1] at hst hdef
          rw [e2, e1] at hst hdef
          have hjl : j < (wants n).length := by rw [wants_len]; omega
          have hj1l : j1 < (wants n).length := by rw [wants_len]; omega
          have hlt1 : (j : Int) < ((wants n).length : Int) := by omega
          have hlt2 : (j1 : Int) < ((wants n).length : Int) := by omega
          obtain ⟨ad', had, p0⟩ := HI.out.row.flat_at j hjl
          cases had
          obtain ⟨ad', had, p1⟩ := HI.out.row.flat_at j1 hj1l
          cases had
          replace p0 : wr.cell? (ad.add j) = some (.string (wn j)) := p0.trans (congrArg (fun z => some (Value.string z)) (wants_get hjl))
          replace p1 : wr.cell? (ad.add j1) = some (.string (wn j1)) := p1.trans (congrArg (fun z => some (Value.string z)) (wants_get hj1l))
          have HF0 : Hid (Fine (chainS n s) 14) := Lib.hid ((chain_fine n s).mono (by omega))
          have HFI : Hid (Fine (chainS n s1) 14) := Lib.hid ((chain_fine n s1).mono (by omega))
          have HX1 : Hid ((wn j).size = 1) := Lib.hid (wn_size j)
          have HY1 : Hid ((wn j1).size = 1) := Lib.hid (wn_size j1)
          have HST := Lib.hid hst
          have HDF := Lib.hid hdef
          clear hst hdef e1 e2 hs1
          obtain ⟨x, hx⟩ : ∃ x, wn j = x := ⟨_, rfl⟩
          obtain ⟨y, hy⟩ : ∃ y, wn j1 = y := ⟨_, rfl⟩
          rw [hx] at p0 HST HDF HX1
          rw [hy] at p1 HST HDF HY1
          have HXE := Lib.hid hx; have HYE := Lib.hid hy
          clear hx hy
          go_upto_region 14 with (fail)
          refine wp_region_tail2 (G := gds [Gd.is (ptr B), Gd.is (.slice (some ad) (wants n).length c), Gd.is (.int .i64 ((j : Nat) : Int)), Gd.is (.pointer (some (ad.add j))), Gd.is (.string x), Gd.is (.slice (some ad) (wants n).length c), Gd.is (.int .i64 ((j : Nat) : Int)), Gd.is (.int .i64 ((j1 : Nat) : Int)), Gd.is (.pointer (some (ad.add j1))), Gd.is (.string y), ⟨fun v X => ∃ b, v = .slice (some ⟨b, 0, none⟩) 1 1 ∧ X.heap[b]? = some (.cells #[.string y] 30 (0, 0)), fun v X Y ⟨b, h1, h2⟩ hc => ⟨b, h1, hc.blk h2 (no_not _)⟩⟩]) 11 (by kernel_rfl) (by kernel_rfl) rfl (by kernel_rfl) (by kernel_rfl) gds_st ?obl14 ?fin14
          case obl14 =>
            simp only [Obls, and_true, List.take_succ_cons, List.take_zero]
            refine ⟨?_, ?_, ?_, ?_, ?_, ?_, ?_, ?_, ?_, ?_, ?_⟩
            · intro vs W hW hd
              simp only [fill, List.setIfInBounds_toArray, List.set_cons_zero, List.set_cons_succ]
              clear hd
              go_wp2_with (fail)
              refine ⟨rfl, rfl, Ch.refl _ _, gds_is rfl ?_⟩
              (conv => lhs; whnf)
            · intro vs W hW hd
              simp only [fill, List.setIfInBounds_toArray, List.set_cons_zero, List.set_cons_succ]
              clear hd
              go_wp2_with (fail)
              refine ⟨rfl, rfl, Ch.refl _ _, gds_is rfl ?_⟩
              (conv => lhs; whnf)
            · intro vs W hW hd
              simp only [fill, List.setIfInBounds_toArray, List.set_cons_zero, List.set_cons_succ]
              clear hd
              go_wp2_with (fail)
              refine ⟨rfl, rfl, Ch.refl _ _, gds_is rfl ?_⟩
              (conv => lhs; whnf)
            · intro vs W hW hd
              simp only [fill, List.setIfInBounds_toArray, List.set_cons_zero, List.set_cons_succ]
              have d1 := gds_at rfl (hd ⟨1, .data⟩ (by simp) rfl)
              have d2 := gds_at rfl (hd ⟨2, .data⟩ (by simp) rfl)
              rw [d1, d2]
              clear hd d1 d2
              go_wp2_with (fail)
              refine ⟨rfl, rfl, Ch.refl _ _, gds_is rfl ?_⟩
              (conv => lhs; whnf)
            · intro vs W hW hd
              simp only [fill, List.setIfInBounds_toArray, List.set_cons_zero, List.set_cons_succ]
              have d3 := gds_at rfl (hd ⟨3, .data⟩ (by simp) rfl)
              rw [d3]
              clear hd d3
              have hWW := (Ch.refl no wr).drew.same hW
              have q0 := cell_ch hWW p0
              have q1 := cell_ch hWW p1
              go_wp2_with (fail)
              refine ⟨rfl, rfl, Ch.refl _ _, gds_is rfl ?_⟩
              (conv => lhs; whnf)
            · intro vs W hW hd
              simp only [fill, List.setIfInBounds_toArray, List.set_cons_zero, List.set_cons_succ]
              clear hd
              go_wp2_with (fail)
              refine ⟨rfl, rfl, Ch.refl _ _, gds_is rfl ?_⟩
              (conv => lhs; whnf)
            · intro vs W hW hd
              simp only [fill, List.setIfInBounds_toArray, List.set_cons_zero, List.set_cons_succ]
              clear hd
              go_wp2_with (fail)
              refine ⟨rfl, rfl, Ch.refl _ _, gds_is rfl ?_⟩
              (conv => lhs; whnf)
            · intro vs W hW hd
              simp only [fill, List.setIfInBounds_toArray, List.set_cons_zero, List.set_cons_succ]
              have d6 := gds_at rfl (hd ⟨6, .data⟩ (by simp) rfl)
              rw [d6]
              clear hd d6
              go_wp2_with (fail)
              refine ⟨rfl, rfl, Ch.refl _ _, gds_is rfl ?_⟩
              (conv => lhs; whnf)
            · intro vs W hW hd
              simp only [fill, List.setIfInBounds_toArray, List.set_cons_zero, List.set_cons_succ]
              have d5 := gds_at rfl (hd ⟨5, .data⟩ (by simp) rfl)
              have d7 := gds_at rfl (hd ⟨7, .data⟩ (by simp) rfl)
              rw [d5, d7]
              clear hd d5 d7
              go_wp2_with (fail)
              refine ⟨rfl, rfl, Ch.refl _ _, gds_is rfl ?_⟩
              (conv => lhs; whnf)
            · intro vs W hW hd
              simp only [fill, List.setIfInBounds_toArray, List.set_cons_zero, List.set_cons_succ]
              have d8 := gds_at rfl (hd ⟨8, .data⟩ (by simp) rfl)
              rw [d8]
              clear hd d8
              have hWW := (Ch.refl no wr).drew.same hW
              have q0 := cell_ch hWW p0
              have q1 := cell_ch hWW p1
              go_wp2_with (fail)
              refine ⟨rfl, rfl, Ch.refl _ _, gds_is rfl ?_⟩
              (conv => lhs; whnf)
            · intro vs W hW hd
              simp only [fill, List.setIfInBounds_toArray, List.set_cons_zero, List.set_cons_succ]
              have d9 := gds_at rfl (hd ⟨9, .data⟩ (by simp) rfl)
              rw [d9]
              clear hd d9
              go_wp2_with (fail)
              exact ⟨rfl, rfl, (Ch.refl _ _).alloc _, gds_mk rfl ⟨_, rfl, bNew _ _⟩⟩
          case fin14 =>
            intro vs W hW hd
            have d0 := gds_at rfl (hd 0 (by omega))
            have d1 := gds_at rfl (hd 1 (by omega))
            have d2 := gds_at rfl (hd 2 (by omega))
            have d3 := gds_at rfl (hd 3 (by omega))
            have d4 := gds_at rfl (hd 4 (by omega))
            have d5 := gds_at rfl (hd 5 (by omega))
            have d6 := gds_at rfl (hd 6 (by omega))
            have d7 := gds_at rfl (hd 7 (by omega))
            have d8 := gds_at rfl (hd 8 (by omega))
            have d9 := gds_at rfl (hd 9 (by omega))
            have d10 := gds_get rfl (hd 10 (by omega))
            refine wpList_frame (by conv => lhs; simp only [fill, List.setIfInBounds_toArray, List.set_cons_zero, List.set_cons_succ, List.take_succ_cons, List.take_zero, d0, d1, d2, d3, d4, d5, d6, d7, d8, d9]) ?_
            simp only [List.drop_succ_cons, List.drop_zero]
            clear hd d0 d1 d2 d3 d4 d5 d6 d7 d8 d9
            obtain ⟨b10, e10, hb10⟩ := d10
            rw [e10]
            have HB10 := Lib.hid hb10
            clear hb10 e10
            have hsa := add_of B (chainS n s) 14 x (.slice (some ⟨b10, 0, none⟩) 1 1) [y] W ((HI.out.dag.ch ((Ch.refl no wr).drew)).ch hW) ⟨_, 1, rfl, row_one HB10.out⟩ HF0.out (by omega) (by have := HX1.out; omega) (by simp) (fun p hp => by simp only [List.mem_singleton] at hp; subst hp; have := HY1.out; omega)
            rw [← HDF.out, HST.out.1] at hsa
            go_wp2_with (refine hsa.mono ?_; rintro e wz ⟨r9, rfl, hv9, hd9, hc9⟩; obtain ⟨A9, c9, hr9⟩ := row_nil hv9; subst hr9; have HDZ := Lib.hid hd9; have HRZ := Lib.hid (row_keep ((HI.out.dag.ch ((Ch.refl no wr).drew)).ch hW).maps hc9 ((HI.out.row.ch ((Ch.refl no wr).drew)).ch hW)); have HCZ : Hid (Ch no w wz) := Lib.hid (((HI.out.ch.then_ ((Ch.refl no wr).drew)).then_ hW).trans hc9 (fun i hi h => by have := HB.out; rcases h with h | h | h <;> omega)); clear hv9 hd9 hc9)
            clear hW hsa HDF
            clear p0 p1
            obtain ⟨ad', had, p0⟩ := HRZ.out.flat_at j hjl
            cases had
            obtain ⟨ad', had, p1⟩ := HRZ.out.flat_at j1 hj1l
            cases had
            replace p0 : wz.cell? (ad.add j) = some (.string x) := p0.trans (congrArg (fun z => some (Value.string z)) ((wants_get hjl).trans HXE.out))
            replace p1 : wz.cell? (ad.add j1) = some (.string y) := p1.trans (congrArg (fun z => some (Value.string z)) ((wants_get hj1l).trans HYE.out))
            have HRC : Hid (s1 + j1 + 1 = n ∧ s1 = s + 1) := Lib.hid (by omega)
            obtain ⟨d1, hd1⟩ : ∃ d1, chainS n s1 = d1 := ⟨_, rfl⟩
            rw [hd1] at HDZ HST HFI
            have HD1 := Lib.hid hd1
            clear hd1
            refine wp_region_tail9 (G := gds [Gd.is (.slice A9 0 c9), Gd.is (.int .i64 0), Gd.is (.bool false), Gd.is (.bool false), Gd.is (ptr B), Gd.is (.int .i64 ((0 : Nat) : Int)), Gd.is (.bool false), Gd.is (.bool false), Gd.is (.bool false), Gd.is (ptr B), ⟨fun v X => ∃ A c, v = .slice A s1 c, fun v X Y h hc => h⟩, Gd.is (.int .i64 ((s1 : Nat) : Int)), Gd.is (.int .i64 ((n : Nat) : Int)), Gd.is (.int .i64 ((j : Nat) : Int)), Gd.is (.int .i64 ((s1 : Nat) : Int)), Gd.is (.bool false), Gd.is (.bool false), Gd.is (.bool false), Gd.is (ptr B), ⟨fun v X => ∃ A c, v = .slice A 1 c ∧ El.str.Row X A c [y], fun v X Y ⟨A, c, h1, h2⟩ hc => ⟨A, c, h1, h2.ch hc⟩⟩, Gd.is (.slice (some ad) (wants n).length c), Gd.is (.int .i64 ((j : Nat) : Int)), Gd.is (.int .i64 ((j1 : Nat) : Int)), Gd.is (.pointer (some (ad.add j1))), Gd.is (.string y), ⟨fun v X => ∃ b, v = .slice (some ⟨b, 0, none⟩) 1 1 ∧ X.heap[b]? = some (.cells #[.string y] 30 (0, 0)), fun v X Y ⟨b, h1, h2⟩ hc => ⟨b, h1, hc.blk h2 (no_not _)⟩⟩, Gd.is (.bool true), Gd.is (.bool false)]) 28 (by kernel_rfl) (by kernel_rfl) rfl (by kernel_rfl) gds_st ?obl15 ?fin15
            case obl15 =>
              simp only [Obls, and_true, List.take_succ_cons, List.take_zero]
              refine ⟨?_, ?_, ?_, ?_, ?_, ?_, ?_, ?_, ?_, ?_, ?_, ?_, ?_, ?_, ?_, ?_, ?_, ?_, ?_, ?_, ?_, ?_, ?_, ?_, ?_, ?_, ?_, ?_⟩
              · intro vs W hW hd
                simp only [fill, List.setIfInBounds_toArray, List.set_cons_zero, List.set_cons_succ]
                clear hd
                go_wp2_with (fail)
                refine ⟨rfl, rfl, Ch.refl _ _, gds_is rfl ?_⟩
                (conv => lhs; whnf)
              · intro vs W hW hd
                simp only [fill, List.setIfInBounds_toArray, List.set_cons_zero, List.set_cons_succ]
                have d0 := gds_at rfl (hd ⟨0, .data⟩ (by simp) rfl)
                rw [d0]
                clear hd d0
                have hWW := (Ch.refl no wz).drew.same hW
                have q0 := cell_ch hWW p0
                have q1 := cell_ch hWW p1
                go_wp2_with (fail)
                refine ⟨rfl, rfl, Ch.refl _ _, gds_is rfl ?_⟩
                (conv => lhs; whnf)
              · intro vs W hW hd
                simp only [fill, List.setIfInBounds_toArray, List.set_cons_zero, List.set_cons_succ]
                have d1 := gds_at rfl (hd ⟨1, .data⟩ (by simp) rfl)
                rw [d1]
                clear hd d1
                go_wp2_with (fail)
                refine ⟨rfl, rfl, Ch.refl _ _, gds_is rfl ?_⟩
                (conv => lhs; whnf)
              · intro vs W hW hd
                simp only [fill, List.setIfInBounds_toArray, List.set_cons_zero, List.set_cons_succ]
                have d2 := gds_at rfl (hd ⟨2, .data⟩ (by simp) rfl)
                rw [d2]
                clear hd d2
                go_wp2_with (fail)
                refine ⟨rfl, rfl, Ch.refl _ _, gds_is rfl ?_⟩
                (conv => lhs; whnf)
              · intro vs W hW hd
                simp only [fill, List.setIfInBounds_toArray, List.set_cons_zero, List.set_cons_succ]
                have d3 := gds_at rfl (hd ⟨3, .guard⟩ (by simp) rfl)
                rw [d3]
                clear hd d3
                go_wp2_with (fail)
                refine ⟨rfl, rfl, Ch.refl _ _, gds_is rfl ?_⟩
                (conv => lhs; whnf)
              · intro vs W hW hd
                simp only [fill, List.setIfInBounds_toArray, List.set_cons_zero, List.set_cons_succ]
                have d3 := gds_at rfl (hd ⟨3, .guard⟩ (by simp) rfl)
                have d4 := gds_at rfl (hd ⟨4, .data⟩ (by simp) rfl)
                rw [d3, d4]
                clear hd d3 d4
                have hWW := (Ch.refl no wz).drew.same hW
                have q0 := cell_ch hWW p0
                have q1 := cell_ch hWW p1
                go_wp2_with (have hs := many_of B d1 W (HDZ.out.ch ((Ch.refl no wz).drew.same hW)); rw [HST.out.2.1] at hs; refine hs.mono ?_; rintro e w2 ⟨rfl, hw⟩; subst hw)
                exact ⟨rfl, rfl, Ch.refl _ _, gds_is rfl rfl⟩
              · intro vs W hW hd
                simp only [fill, List.setIfInBounds_toArray, List.set_cons_zero, List.set_cons_succ]
                have d3 := gds_at rfl (hd ⟨3, .guard⟩ (by simp) rfl)
                have d5 := gds_at rfl (hd ⟨5, .data⟩ (by simp) rfl)
                rw [d3, d5]
                clear hd d3 d5
                go_wp2_with (fail)
                refine ⟨rfl, rfl, Ch.refl _ _, gds_is rfl ?_⟩
                (conv => lhs; whnf)
              · intro vs W hW hd
                simp only [fill, List.setIfInBounds_toArray, List.set_cons_zero, List.set_cons_succ]
                have d3 := gds_at rfl (hd ⟨3, .data⟩ (by simp) rfl)
                have d6 := gds_at rfl (hd ⟨6, .data⟩ (by simp) rfl)
                rw [d3, d6]
                clear hd d3 d6
                go_wp2_with (fail)
                refine ⟨rfl, rfl, Ch.refl _ _, gds_is rfl ?_⟩
                (conv => lhs; whnf)
              · intro vs W hW hd
                simp only [fill, List.setIfInBounds_toArray, List.set_cons_zero, List.set_cons_succ]
                have d7 := gds_at rfl (hd ⟨7, .data⟩ (by simp) rfl)
                rw [d7]
                clear hd d7
                go_wp2_with (fail)
                refine ⟨rfl, rfl, Ch.refl _ _, gds_is rfl ?_⟩
                (conv => lhs; whnf)
              · intro vs W hW hd
                simp only [fill, List.setIfInBounds_toArray, List.set_cons_zero, List.set_cons_succ]
                have d8 := gds_at rfl (hd ⟨8, .guard⟩ (by simp) rfl)
                rw [d8]
                clear hd d8
                go_wp2_with (fail)
                refine ⟨rfl, rfl, Ch.refl _ _, gds_is rfl ?_⟩
                (conv => lhs; whnf)
              · intro vs W hW hd
                simp only [fill, List.setIfInBounds_toArray, List.set_cons_zero, List.set_cons_succ]
                have d8 := gds_at rfl (hd ⟨8, .guard⟩ (by simp) rfl)
                have d9 := gds_at rfl (hd ⟨9, .data⟩ (by simp) rfl)
                rw [d8, d9]
                clear hd d8 d9
                have hWW := (Ch.refl no wz).drew.same hW
                have q0 := cell_ch hWW p0
                have q1 := cell_ch hWW p1
                go_wp2_with (refine (waiting_of B d1 14 W (HDZ.out.ch ((Ch.refl no wz).drew.same hW)) HFI.out (by omega)).mono ?_; rintro e w2 ⟨v2, rfl, ho, hch⟩; obtain ⟨A2, k2, hv2⟩ := own_shape ho; rw [HST.out.2.2.1] at hv2; have HV2 := Lib.hid hv2; clear hv2 ho)
                exact ⟨rfl, rfl, hch, gds_mk rfl ⟨A2, k2, HV2.out⟩⟩
              · intro vs W hW hd
                simp only [fill, List.setIfInBounds_toArray, List.set_cons_zero, List.set_cons_succ]
                have d8 := gds_at rfl (hd ⟨8, .guard⟩ (by simp) rfl)
                have d10 := gds_get rfl (hd ⟨10, .data⟩ (by simp) rfl)
                obtain ⟨A2, k2, e10⟩ := d10
                rw [e10]
                clear e10
                rw [d8]
                clear hd d8
                have hWW := (Ch.refl no wz).drew.same hW
                have q0 := cell_ch hWW p0
                have q1 := cell_ch hWW p1
                go_wp2_with (fail)
                refine ⟨rfl, rfl, Ch.refl _ _, gds_is rfl ?_⟩
                (conv => lhs; whnf)
              · intro vs W hW hd
                simp only [fill, List.setIfInBounds_toArray, List.set_cons_zero, List.set_cons_succ]
                have d8 := gds_at rfl (hd ⟨8, .guard⟩ (by simp) rfl)
                rw [d8]
                clear hd d8
                go_wp2_with (fail)
                refine ⟨rfl, rfl, Ch.refl _ _, gds_is rfl ?_⟩
                (conv => lhs; whnf)
              · intro vs W hW hd
                simp only [fill, List.setIfInBounds_toArray, List.set_cons_zero, List.set_cons_succ]
                have d8 := gds_at rfl (hd ⟨8, .guard⟩ (by simp) rfl)
                rw [d8]
                clear hd d8
                go_wp2_with (fail)
                refine ⟨rfl, rfl, Ch.refl _ _, gds_is rfl ?_⟩
                (conv => lhs; whnf)
              · intro vs W hW hd
                simp only [fill, List.setIfInBounds_toArray, List.set_cons_zero, List.set_cons_succ]
                have d8 := gds_at rfl (hd ⟨8, .guard⟩ (by simp) rfl)
                have d12 := gds_at rfl (hd ⟨12, .data⟩ (by simp) rfl)
                have d13 := gds_at rfl (hd ⟨13, .data⟩ (by simp) rfl)
                rw [d8, d12, d13]
                clear hd d8 d12 d13
                go_wp2_with (fail)
                refine ⟨rfl, rfl, Ch.refl _ _, gds_is rfl ?_⟩
                (conv => lhs; whnf)
              · intro vs W hW hd
                simp only [fill, List.setIfInBounds_toArray, List.set_cons_zero, List.set_cons_succ]
                have d8 := gds_at rfl (hd ⟨8, .guard⟩ (by simp) rfl)
                have d11 := gds_at rfl (hd ⟨11, .data⟩ (by simp) rfl)
                have d14 := gds_at rfl (hd ⟨14, .data⟩ (by simp) rfl)
                rw [d8, d11, d14]
                clear hd d8 d11 d14
                go_wp2_with (fail)
                refine ⟨rfl, rfl, Ch.refl _ _, gds_is rfl ?_⟩
                (conv => lhs; whnf)
              · intro vs W hW hd
                simp only [fill, List.setIfInBounds_toArray, List.set_cons_zero, List.set_cons_succ]
                have d8 := gds_at rfl (hd ⟨8, .data⟩ (by simp) rfl)
                have d15 := gds_at rfl (hd ⟨15, .data⟩ (by simp) rfl)
                rw [d8, d15]
                clear hd d8 d15
                go_wp2_with (fail)
                refine ⟨rfl, rfl, Ch.refl _ _, gds_is rfl ?_⟩
                (conv => lhs; whnf)
              · intro vs W hW hd
                simp only [fill, List.setIfInBounds_toArray, List.set_cons_zero, List.set_cons_succ]
                have d16 := gds_at rfl (hd ⟨16, .data⟩ (by simp) rfl)
                rw [d16]
                clear hd d16
                go_wp2_with (fail)
                refine ⟨rfl, rfl, Ch.refl _ _, gds_is rfl ?_⟩
                (conv => lhs; whnf)
              · intro vs W hW hd
                simp only [fill, List.setIfInBounds_toArray, List.set_cons_zero, List.set_cons_succ]
                have d17 := gds_at rfl (hd ⟨17, .guard⟩ (by simp) rfl)
                rw [d17]
                clear hd d17
                go_wp2_with (fail)
                refine ⟨rfl, rfl, Ch.refl _ _, gds_is rfl ?_⟩
                (conv => lhs; whnf)
              · intro vs W hW hd
                simp only [fill, List.setIfInBounds_toArray, List.set_cons_zero, List.set_cons_succ]
                have d17 := gds_at rfl (hd ⟨17, .guard⟩ (by simp) rfl)
                have d18 := gds_at rfl (hd ⟨18, .data⟩ (by simp) rfl)
                rw [d17, d18]
                clear hd d17 d18
                have hWW := (Ch.refl no wz).drew.same hW
                have q0 := cell_ch hWW p0
                have q1 := cell_ch hWW p1
                go_wp2_with (have hs := lacks_of B d1 14 W (HDZ.out.ch ((Ch.refl no wz).drew.same hW)) HFI.out (by omega); rw [HST.out.2.2.2] at hs; refine hs.mono ?_; rintro e w2 ⟨v2, rfl, ho, hch⟩; obtain ⟨A2, k2, hv2⟩ := own_shape ho; subst hv2; have HRO := Lib.hid (row_of_own ho); clear ho)
                exact ⟨rfl, rfl, hch, gds_mk rfl ⟨A2, k2, rfl, HRO.out⟩⟩
              · intro vs W hW hd
                simp only [fill, List.setIfInBounds_toArray, List.set_cons_zero, List.set_cons_succ]
                have d17 := gds_at rfl (hd ⟨17, .guard⟩ (by simp) rfl)
                rw [d17]
                clear hd d17
                go_wp2_with (fail)
                refine ⟨rfl, rfl, Ch.refl _ _, gds_is rfl ?_⟩
                (conv => lhs; whnf)
              · intro vs W hW hd
                simp only [fill, List.setIfInBounds_toArray, List.set_cons_zero, List.set_cons_succ]
                have d17 := gds_at rfl (hd ⟨17, .guard⟩ (by simp) rfl)
                rw [d17]
                clear hd d17
                go_wp2_with (fail)
                refine ⟨rfl, rfl, Ch.refl _ _, gds_is rfl ?_⟩
                (conv => lhs; whnf)
              · intro vs W hW hd
                simp only [fill, List.setIfInBounds_toArray, List.set_cons_zero, List.set_cons_succ]
                have d17 := gds_at rfl (hd ⟨17, .guard⟩ (by simp) rfl)
                have d21 := gds_at rfl (hd ⟨21, .data⟩ (by simp) rfl)
                rw [d17, d21]
                clear hd d17 d21
                go_wp2_with (fail)
                refine ⟨rfl, rfl, Ch.refl _ _, gds_is rfl ?_⟩
                (conv => lhs; whnf)
              · intro vs W hW hd
                simp only [fill, List.setIfInBounds_toArray, List.set_cons_zero, List.set_cons_succ]
                have d17 := gds_at rfl (hd ⟨17, .guard⟩ (by simp) rfl)
                have d20 := gds_at rfl (hd ⟨20, .data⟩ (by simp) rfl)
                have d22 := gds_at rfl (hd ⟨22, .data⟩ (by simp) rfl)
                rw [d17, d20, d22]
                clear hd d17 d20 d22
                go_wp2_with (fail)
                refine ⟨rfl, rfl, Ch.refl _ _, gds_is rfl ?_⟩
                (conv => lhs; whnf)
              · intro vs W hW hd
                simp only [fill, List.setIfInBounds_toArray, List.set_cons_zero, List.set_cons_succ]
                have d17 := gds_at rfl (hd ⟨17, .guard⟩ (by simp) rfl)
                have d23 := gds_at rfl (hd ⟨23, .data⟩ (by simp) rfl)
                rw [d17, d23]
                clear hd d17 d23
                have hWW := (Ch.refl no wz).drew.same hW
                have q0 := cell_ch hWW p0
                have q1 := cell_ch hWW p1
                go_wp2_with (fail)
                refine ⟨rfl, rfl, Ch.refl _ _, gds_is rfl ?_⟩
                (conv => lhs; whnf)
              · intro vs W hW hd
                simp only [fill, List.setIfInBounds_toArray, List.set_cons_zero, List.set_cons_succ]
                have d17 := gds_at rfl (hd ⟨17, .guard⟩ (by simp) rfl)
                have d24 := gds_at rfl (hd ⟨24, .data⟩ (by simp) rfl)
                rw [d17, d24]
                clear hd d17 d24
                go_wp2_with (fail)
                exact ⟨rfl, rfl, (Ch.refl _ _).alloc _, gds_mk rfl ⟨_, rfl, bNew _ _⟩⟩
              · intro vs W hW hd
                simp only [fill, List.setIfInBounds_toArray, List.set_cons_zero, List.set_cons_succ]
                have d17 := gds_at rfl (hd ⟨17, .guard⟩ (by simp) rfl)
                have d19 := gds_get rfl (hd ⟨19, .data⟩ (by simp) rfl)
                obtain ⟨A19, k19, e19, hr19⟩ := d19
                rw [e19]
                have HR19 := Lib.hid hr19
                clear hr19 e19
                have d25 := gds_get rfl (hd ⟨25, .data⟩ (by simp) rfl)
                obtain ⟨b25, e25, hb25⟩ := d25
                rw [e25]
                have HB25 := Lib.hid hb25
                clear hb25 e25
                rw [d17]
                clear hd d17
                have hWW := (Ch.refl no wz).drew.same hW
                have q0 := cell_ch hWW p0
                have q1 := cell_ch hWW p1
                go_wp2_with (have hs := ids_any A19 (some ⟨b25, 0, none⟩) k19 1 [y] [y] W HR19.out (row_one HB25.out); rw [decide_eq_true (rfl : [y] = [y])] at hs; refine hs.mono ?_; rintro e w2 ⟨rfl, hdr⟩)
                exact ⟨rfl, rfl, hdr.ch no, gds_is rfl rfl⟩
              · intro vs W hW hd
                simp only [fill, List.setIfInBounds_toArray, List.set_cons_zero, List.set_cons_succ]
                have d17 := gds_at rfl (hd ⟨17, .guard⟩ (by simp) rfl)
                have d26 := gds_at rfl (hd ⟨26, .data⟩ (by simp) rfl)
                rw [d17, d26]
                clear hd d17 d26
                go_wp2_with (fail)
                refine ⟨rfl, rfl, Ch.refl _ _, gds_is rfl ?_⟩
                (conv => lhs; whnf)
            case fin15 =>
              intro vs W hW hd
              have d0 := gds_at rfl (hd 0 (by omega))
              have d1 := gds_at rfl (hd 1 (by omega))
              have d2 := gds_at rfl (hd 2 (by omega))
              have d3 := gds_at rfl (hd 3 (by omega))
              have d4 := gds_at rfl (hd 4 (by omega))
              have d5 := gds_at rfl (hd 5 (by omega))
              have d6 := gds_at rfl (hd 6 (by omega))
              have d7 := gds_at rfl (hd 7 (by omega))
              have d8 := gds_at rfl (hd 8 (by omega))
              have d9 := gds_at rfl (hd 9 (by omega))
              have d10 := gds_get rfl (hd 10 (by omega))
              have d11 := gds_at rfl (hd 11 (by omega))
              have d12 := gds_at rfl (hd 12 (by omega))
              have d13 := gds_at rfl (hd 13 (by omega))
              have d14 := gds_at rfl (hd 14 (by omega))
              have d15 := gds_at rfl (hd 15 (by omega))
              have d16 := gds_at rfl (hd 16 (by omega))
              have d17 := gds_at rfl (hd 17 (by omega))
              have d18 := gds_at rfl (hd 18 (by omega))
              have d19 := gds_get rfl (hd 19 (by omega))
              have d20 := gds_at rfl (hd 20 (by omega))
              have d21 := gds_at rfl (hd 21 (by omega))
              have d22 := gds_at rfl (hd 22 (by omega))
              have d23 := gds_at rfl (hd 23 (by omega))
              have d24 := gds_at rfl (hd 24 (by omega))
              have d25 := gds_get rfl (hd 25 (by omega))
              have d26 := gds_at rfl (hd 26 (by omega))
              have d27 := gds_at rfl (hd 27 (by omega))
              refine wpList_frame (by conv => lhs; simp only [fill, List.setIfInBounds_toArray, List.set_cons_zero, List.set_cons_succ, List.take_succ_cons, List.take_zero, d0, d1, d2, d3, d4, d5, d6, d7, d8, d9, d11, d12, d13, d14, d15, d16, d17, d18, d20, d21, d22, d23, d24, d26, d27]) ?_
              simp only [List.drop_succ_cons, List.drop_zero]
              clear hd d0 d1 d2 d3 d4 d5 d6 d7 d8 d9 d11 d12 d13 d14 d15 d16 d17 d18 d20 d21 d22 d23 d24 d26 d27
              have HWZ : Hid (Ch no wz W) := Lib.hid ((Ch.refl no wz).drew.then_ hW)
              clear hW d10 d19 d25
              go_wp2_with fail
              go_roundw
              case rel => exact ⟨s1, j1, HRC.out.1, rfl, Lib.hid ⟨by rw [HD1.out]; exact HDZ.out.ch HWZ.out, HCZ.out.then_ HWZ.out, HRZ.out.ch HWZ.out⟩⟩
              case measure => simp [intOf]; omega
        · have hj0 : j = 0 := by omega
          subst hj0
          obtain ⟨n1, hn1e⟩ : ∃ n1, n - 1 = n1 := ⟨_, rfl⟩
          have hsn : s = n1 := by omega
          subst hsn
          have hni1 : (n : Int) - 1 = (s : Int) := by omega
          have hl0 : 0 < (wants n).length := by rw [wants_len]; omega
          have hl0' : (0 : Int) < ((wants n).length : Int) := by omega
          have hln : s < (wants n).length := by rw [wants_len]; omega
          have hln' : (s : Int) < ((wants n).length : Int) := by omega
          obtain ⟨ad', had, p0⟩ := HI.out.row.flat_at 0 hl0
          cases had
          replace p0 : wr.cell? (ad.add 0) = some (.string (wn 0)) := p0.trans (congrArg (fun z => some (Value.string z)) (wants_get hl0))
          have p00 : wr.cell? ad = some (.string (wn 0)) := by rwa [add_zero] at p0
          have hf := fin_all n hn2 hn1
          have hfd : fin n = ((chainS n s).add (wn 0) []).1 := by unfold fin; rw [hn1e]
          rw [hn1e] at hf
          have HF0 : Hid (Fine (chainS n s) 14) := Lib.hid ((chain_fine n s).mono (by omega))
          have HFI : Hid (Fine (fin n) 14) := Lib.hid ((fin_fine n).mono (by omega))
          have hsa := add_of B (chainS n s) 14 (wn 0) (.slice none 0 0) [] wr HI.out.dag (RowV.nil _) HF0.out (by omega) (by rw [wn_size]; omega) (by simp) (by simp)
          rw [← hfd, hf.1] at hsa
          have HFA : Hid ((∀ i, i < n → (fin n).level (wn i) = (i : Int)) ∧ (fin n).waiting.length = 0 ∧ (fin n).lacks.length = 0 ∧ (fin n).heads = [wn s]) := Lib.hid hf.2
          have HWG : Hid (∀ i (h : i < (wants n).length), (wants n)[i] = wn i) := Lib.hid (fun i h => wants_get h)
          clear hf hfd hn1e
          obtain ⟨z0, hz0⟩ : ∃ z0, wn 0 = z0 := ⟨_, rfl⟩
          rw [hz0] at p0 p00 hsa
          clear hz0
          go_wp2_with fail
          refine hsa.mono ?_
          rintro e w9 ⟨r9, rfl, ⟨A7, c7, rfl, hr7⟩, hd9, hc9⟩
          have HR7 := Lib.hid hr7; have HD9 := Lib.hid hd9
          have HRW := Lib.hid (row_keep HI.out.dag.maps hc9 HI.out.row)
          have HC9 : Hid (Ch no w w9) := Lib.hid (HI.out.ch.trans hc9 (fun i hi h => by have := HB.out; rcases h with h | h | h <;> omega))
          clear hsa hr7 hd9 hc9 p0 p00 HI
          obtain ⟨d1, hd1⟩ : ∃ d1, fin n = d1 := ⟨_, rfl⟩
          rw [hd1] at HD9 HFA HFI
          clear hd1
          go_wp2_with fail
          go_loopw [11] (fun i wz => ∃ k : Nat, k ≤ n ∧ i = .int .i64 k ∧ w9 = wz) (fun i _ => n - (intOf i).toNat)
          case atStart => exact ⟨0, by omega, rfl, rfl⟩
          case round =>
            obtain ⟨k, hk, rfl, rfl⟩ := hrel
            by_cases hlt : k < n
            · have hkl : k < (wants n).length := by rw [wants_len]; omega
              have hkl' : (k : Int) < ((wants n).length : Int) := by omega
              obtain ⟨ad', had, p0⟩ := HRW.out.flat_at k hkl
              cases had
              replace p0 : w9.cell? (ad.add k) = some (.string (wn k)) := p0.trans (congrArg (fun z => some (Value.string z)) (HWG.out k hkl))
              have hs := level_of B d1 (wn k) w9 HD9.out
              rw [HFA.out.1 k hlt] at hs
              obtain ⟨z0, hz0⟩ : ∃ z0, wn k = z0 := ⟨_, rfl⟩
              rw [hz0] at p0 hs
              clear hz0
              go_wp2_with fail
              refine hs.mono ?_
              rintro e w' ⟨rfl, hw⟩
              subst hw
              clear hs
              go_wp2_with fail
              go_roundw
              case rel => exact ⟨k + 1, by omega, by go_num, trivial⟩
              case measure => simp [intOf]; omega
            · obtain ⟨ad', had, p1⟩ := HRW.out.flat_at s hln
              cases had
              replace p1 : w9.cell? (ad.add s) = some (.string (wn s)) := p1.trans (congrArg (fun z => some (Value.string z)) (HWG.out s hln))
              have HFA : Hid ((∀ i, i < n → d1.level (wn i) = (i : Int)) ∧ d1.waiting.length = 0 ∧ d1.lacks.length = 0 ∧ d1.heads = [wn s]) := HFA
              have HFA : Hid (True ∧ d1.waiting.length = 0 ∧ d1.lacks.length = 0 ∧ d1.heads = [wn s]) := Lib.hid ⟨trivial, HFA.out.2⟩
              obtain ⟨y, hy⟩ : ∃ y, wn s = y := ⟨_, rfl⟩
              rw [hy] at p1 HFA
              clear hy
              go_upto_region 23 with (fail)
              refine wp_region_tail9 (G := gds [Gd.is (.bool true), Gd.is (.bool true), Gd.is (.slice A7 (wants n).length c7), Gd.is (.slice (some ad) (wants n).length c), Gd.is (.bool true), Gd.is (.bool true), Gd.is (.bool true), Gd.is (ptr B), ⟨fun v X => ∃ A c, v = .slice A 0 c, fun v X Y h hc => h⟩, Gd.is (.int .i64 0), Gd.is (.bool true), Gd.is (.bool true), Gd.is (.bool true), Gd.is (ptr B), ⟨fun v X => ∃ A c, v = .slice A 0 c, fun v X Y h hc => h⟩, Gd.is (.int .i64 0), Gd.is (.bool true), Gd.is (.bool true), Gd.is (.bool true), Gd.is (ptr B), ⟨fun v X => ∃ A c, v = .slice A 1 c ∧ El.str.Row X A c [y], fun v X Y ⟨A, c, h1, h2⟩ hc => ⟨A, c, h1, h2.ch hc⟩⟩, Gd.is (.slice (some ad) (wants n).length c), Gd.is (.int .i64 ((n : Nat) : Int)), Gd.is (.int .i64 ((s : Nat) : Int)), Gd.is (.pointer (some (ad.add s))), Gd.is (.string y), ⟨fun v X => ∃ b, v = .slice (some ⟨b, 0, none⟩) 1 1 ∧ X.heap[b]? = some (.cells #[.string y] 30 (0, 0)), fun v X Y ⟨b, h1, h2⟩ hc => ⟨b, h1, hc.blk h2 (no_not _)⟩⟩, Gd.is (.bool true), Gd.is (.bool true)]) 29 (by kernel_rfl) (by kernel_rfl) rfl (by kernel_rfl) gds_st ?obl23 ?fin23
              case obl23 =>
                simp only [Obls, and_true, List.take_succ_cons, List.take_zero]
                refine ⟨?_, ?_, ?_, ?_, ?_, ?_, ?_, ?_, ?_, ?_, ?_, ?_, ?_, ?_, ?_, ?_, ?_, ?_, ?_, ?_, ?_, ?_, ?_, ?_, ?_, ?_, ?_, ?_, ?_⟩
                · intro vs W hW hd
                  simp only [fill, List.setIfInBounds_toArray, List.set_cons_zero, List.set_cons_succ]
                  clear hd
                  go_wp2_with (fail)
                  refine ⟨rfl, rfl, Ch.refl _ _, gds_is rfl ?_⟩
                  (conv => lhs; whnf)
                · intro vs W hW hd
                  simp only [fill, List.setIfInBounds_toArray, List.set_cons_zero, List.set_cons_succ]
                  have d0 := gds_at rfl (hd ⟨0, .data⟩ (by simp) rfl)
                  rw [d0]
                  clear hd d0
                  go_wp2_with (fail)
                  refine ⟨rfl, rfl, Ch.refl _ _, gds_is rfl ?_⟩
                  (conv => lhs; whnf)
                · intro vs W hW hd
                  simp only [fill, List.setIfInBounds_toArray, List.set_cons_zero, List.set_cons_succ]
                  have d1 := gds_at rfl (hd ⟨1, .guard⟩ (by simp) rfl)
                  rw [d1]
                  clear hd d1
                  go_wp2_with (fail)
                  refine ⟨rfl, rfl, Ch.refl _ _, gds_is rfl ?_⟩
                  (conv => lhs; whnf)
                · intro vs W hW hd
                  simp only [fill, List.setIfInBounds_toArray, List.set_cons_zero, List.set_cons_succ]
                  have d1 := gds_at rfl (hd ⟨1, .guard⟩ (by simp) rfl)
                  rw [d1]
                  clear hd d1
                  go_wp2_with (fail)
                  refine ⟨rfl, rfl, Ch.refl _ _, gds_is rfl ?_⟩
                  (conv => lhs; whnf)
                · intro vs W hW hd
                  simp only [fill, List.setIfInBounds_toArray, List.set_cons_zero, List.set_cons_succ]
                  have d1 := gds_at rfl (hd ⟨1, .guard⟩ (by simp) rfl)
                  have d2 := gds_at rfl (hd ⟨2, .data⟩ (by simp) rfl)
                  have d3 := gds_at rfl (hd ⟨3, .data⟩ (by simp) rfl)
                  rw [d1, d2, d3]
                  clear hd d1 d2 d3
                  have hWW := (Ch.refl no w9).drew.same hW
                  have q1 := cell_ch hWW p1
                  go_wp2_with (have hs := ids_any A7 (some ad) c7 c (wants n) (wants n) W (HR7.out.ch ((Ch.refl no w9).drew.same hW)) (HRW.out.ch ((Ch.refl no w9).drew.same hW)); rw [decide_eq_true rfl] at hs; refine hs.mono ?_; rintro e w2 ⟨rfl, hdr⟩)
                  exact ⟨rfl, rfl, hdr.ch no, gds_is rfl rfl⟩
                · intro vs W hW hd
                  simp only [fill, List.setIfInBounds_toArray, List.set_cons_zero, List.set_cons_succ]
                  have d1 := gds_at rfl (hd ⟨1, .data⟩ (by simp) rfl)
                  have d4 := gds_at rfl (hd ⟨4, .data⟩ (by simp) rfl)
                  rw [d1, d4]
                  clear hd d1 d4
                  go_wp2_with (fail)
                  refine ⟨rfl, rfl, Ch.refl _ _, gds_is rfl ?_⟩
                  (conv => lhs; whnf)
                · intro vs W hW hd
                  simp only [fill, List.setIfInBounds_toArray, List.set_cons_zero, List.set_cons_succ]
                  have d5 := gds_at rfl (hd ⟨5, .data⟩ (by simp) rfl)
                  rw [d5]
                  clear hd d5
                  go_wp2_with (fail)
                  refine ⟨rfl, rfl, Ch.refl _ _, gds_is rfl ?_⟩
                  (conv => lhs; whnf)
                · intro vs W hW hd
                  simp only [fill, List.setIfInBounds_toArray, List.set_cons_zero, List.set_cons_succ]
                  have d6 := gds_at rfl (hd ⟨6, .guard⟩ (by simp) rfl)
                  rw [d6]
                  clear hd d6
                  go_wp2_with (fail)
                  refine ⟨rfl, rfl, Ch.refl _ _, gds_is rfl ?_⟩
                  (conv => lhs; whnf)
                · intro vs W hW hd
                  simp only [fill, List.setIfInBounds_toArray, List.set_cons_zero, List.set_cons_succ]
                  have d6 := gds_at rfl (hd ⟨6, .guard⟩ (by simp) rfl)
                  have d7 := gds_at rfl (hd ⟨7, .data⟩ (by simp) rfl)
                  rw [d6, d7]
                  clear hd d6 d7
                  have hWW := (Ch.refl no w9).drew.same hW
                  have q1 := cell_ch hWW p1
                  go_wp2_with (refine (waiting_of B d1 14 W (HD9.out.ch ((Ch.refl no w9).drew.same hW)) HFI.out (by omega)).mono ?_; rintro e w2 ⟨v2, rfl, ho, hch⟩; obtain ⟨A2, k2, hv2⟩ := own_shape ho; rw [HFA.out.2.1] at hv2; have HV2 := Lib.hid hv2; clear hv2 ho)
                  exact ⟨rfl, rfl, hch, gds_mk rfl ⟨A2, k2, HV2.out⟩⟩
                · intro vs W hW hd
                  simp only [fill, List.setIfInBounds_toArray, List.set_cons_zero, List.set_cons_succ]
                  have d6 := gds_at rfl (hd ⟨6, .guard⟩ (by simp) rfl)
                  have d8 := gds_get rfl (hd ⟨8, .data⟩ (by simp) rfl)
                  obtain ⟨A2, k2, e8⟩ := d8
                  rw [e8]
                  clear e8
                  rw [d6]
                  clear hd d6
                  have hWW := (Ch.refl no w9).drew.same hW
                  have q1 := cell_ch hWW p1
                  go_wp2_with (fail)
                  refine ⟨rfl, rfl, Ch.refl _ _, gds_is rfl ?_⟩
                  (conv => lhs; whnf)
                · intro vs W hW hd
                  simp only [fill, List.setIfInBounds_toArray, List.set_cons_zero, List.set_cons_succ]
                  have d6 := gds_at rfl (hd ⟨6, .guard⟩ (by simp) rfl)
                  have d9 := gds_at rfl (hd ⟨9, .data⟩ (by simp) rfl)
                  rw [d6, d9]
                  clear hd d6 d9
                  go_wp2_with (fail)
                  refine ⟨rfl, rfl, Ch.refl _ _, gds_is rfl ?_⟩
                  (conv => lhs; whnf)
                · intro vs W hW hd
                  simp only [fill, List.setIfInBounds_toArray, List.set_cons_zero, List.set_cons_succ]
                  have d6 := gds_at rfl (hd ⟨6, .data⟩ (by simp) rfl)
                  have d10 := gds_at rfl (hd ⟨10, .data⟩ (by simp) rfl)
                  rw [d6, d10]
                  clear hd d6 d10
                  go_wp2_with (fail)
                  refine ⟨rfl, rfl, Ch.refl _ _, gds_is rfl ?_⟩
                  (conv => lhs; whnf)
                · intro vs W hW hd
                  simp only [fill, List.setIfInBounds_toArray, List.set_cons_zero, List.set_cons_succ]
                  have d11 := gds_at rfl (hd ⟨11, .data⟩ (by simp) rfl)
                  rw [d11]
                  clear hd d11
                  go_wp2_with (fail)
                  refine ⟨rfl, rfl, Ch.refl _ _, gds_is rfl ?_⟩
                  (conv => lhs; whnf)
                · intro vs W hW hd
                  simp only [fill, List.setIfInBounds_toArray, List.set_cons_zero, List.set_cons_succ]
                  have d12 := gds_at rfl (hd ⟨12, .guard⟩ (by simp) rfl)
                  rw [d12]
                  clear hd d12
                  go_wp2_with (fail)
                  refine ⟨rfl, rfl, Ch.refl _ _, gds_is rfl ?_⟩
                  (conv => lhs; whnf)
                · intro vs W hW hd
                  simp only [fill, List.setIfInBounds_toArray, List.set_cons_zero, List.set_cons_succ]
                  have d12 := gds_at rfl (hd ⟨12, .guard⟩ (by simp) rfl)
                  have d13 := gds_at rfl (hd ⟨13, .data⟩ (by simp) rfl)
                  rw [d12, d13]
                  clear hd d12 d13
                  have hWW := (Ch.refl no w9).drew.same hW
                  have q1 := cell_ch hWW p1
                  go_wp2_with (refine (lacks_of B d1 14 W (HD9.out.ch ((Ch.refl no w9).drew.same hW)) HFI.out (by omega)).mono ?_; rintro e w2 ⟨v2, rfl, ho, hch⟩; obtain ⟨A2, k2, hv2⟩ := own_shape ho; rw [HFA.out.2.2.1] at hv2; have HV2 := Lib.hid hv2; clear hv2 ho)
                  exact ⟨rfl, rfl, hch, gds_mk rfl ⟨A2, k2, HV2.out⟩⟩
                · intro vs W hW hd
                  simp only [fill, List.setIfInBounds_toArray, List.set_cons_zero, List.set_cons_succ]
                  have d12 := gds_at rfl (hd ⟨12, .guard⟩ (by simp) rfl)
                  have d14 := gds_get rfl (hd ⟨14, .data⟩ (by simp) rfl)
                  obtain ⟨A2, k2, e14⟩ := d14
                  rw [e14]
                  clear e14
                  rw [d12]
                  clear hd d12
                  have hWW := (Ch.refl no w9).drew.same hW
                  have q1 := cell_ch hWW p1
                  go_wp2_with (fail)
                  refine ⟨rfl, rfl, Ch.refl _ _, gds_is rfl ?_⟩
                  (conv => lhs; whnf)
                · intro vs W hW hd
                  simp only [fill, List.setIfInBounds_toArray, List.set_cons_zero, List.set_cons_succ]
                  have d12 := gds_at rfl (hd ⟨12, .guard⟩ (by simp) rfl)
                  have d15 := gds_at rfl (hd ⟨15, .data⟩ (by simp) rfl)
                  rw [d12, d15]
                  clear hd d12 d15
                  go_wp2_with (fail)
                  refine ⟨rfl, rfl, Ch.refl _ _, gds_is rfl ?_⟩
                  (conv => lhs; whnf)
                · intro vs W hW hd
                  simp only [fill, List.setIfInBounds_toArray, List.set_cons_zero, List.set_cons_succ]
                  have d12 := gds_at rfl (hd ⟨12, .data⟩ (by simp) rfl)
                  have d16 := gds_at rfl (hd ⟨16, .data⟩ (by simp) rfl)
                  rw [d12, d16]
                  clear hd d12 d16
                  go_wp2_with (fail)
                  refine ⟨rfl, rfl, Ch.refl _ _, gds_is rfl ?_⟩
                  (conv => lhs; whnf)
                · intro vs W hW hd
                  simp only [fill, List.setIfInBounds_toArray, List.set_cons_zero, List.set_cons_succ]
                  have d17 := gds_at rfl (hd ⟨17, .data⟩ (by simp) rfl)
                  rw [d17]
                  clear hd d17
                  go_wp2_with (fail)
                  refine ⟨rfl, rfl, Ch.refl _ _, gds_is rfl ?_⟩
                  (conv => lhs; whnf)
                · intro vs W hW hd
                  simp only [fill, List.setIfInBounds_toArray, List.set_cons_zero, List.set_cons_succ]
                  have d18 := gds_at rfl (hd ⟨18, .guard⟩ (by simp) rfl)
                  rw [d18]
                  clear hd d18
                  go_wp2_with (fail)
                  refine ⟨rfl, rfl, Ch.refl _ _, gds_is rfl ?_⟩
                  (conv => lhs; whnf)
                · intro vs W hW hd
                  simp only [fill, List.setIfInBounds_toArray, List.set_cons_zero, List.set_cons_succ]
                  have d18 := gds_at rfl (hd ⟨18, .guard⟩ (by simp) rfl)
                  have d19 := gds_at rfl (hd ⟨19, .data⟩ (by simp) rfl)
                  rw [d18, d19]
                  clear hd d18 d19
                  have hWW := (Ch.refl no w9).drew.same hW
                  have q1 := cell_ch hWW p1
                  go_wp2_with (have hs := heads_of B d1 14 W (HD9.out.ch ((Ch.refl no w9).drew.same hW)) HFI.out (by omega); rw [HFA.out.2.2.2] at hs; refine hs.mono ?_; rintro e w2 ⟨v2, rfl, ho, hch⟩; obtain ⟨A2, k2, hv2⟩ := own_shape ho; subst hv2; have HRO := Lib.hid (row_of_own ho); clear ho)
                  exact ⟨rfl, rfl, hch, gds_mk rfl ⟨A2, k2, rfl, HRO.out⟩⟩
                · intro vs W hW hd
                  simp only [fill, List.setIfInBounds_toArray, List.set_cons_zero, List.set_cons_succ]
                  have d18 := gds_at rfl (hd ⟨18, .guard⟩ (by simp) rfl)
                  rw [d18]
                  clear hd d18
                  go_wp2_with (fail)
                  refine ⟨rfl, rfl, Ch.refl _ _, gds_is rfl ?_⟩
                  (conv => lhs; whnf)
                · intro vs W hW hd
                  simp only [fill, List.setIfInBounds_toArray, List.set_cons_zero, List.set_cons_succ]
                  have d18 := gds_at rfl (hd ⟨18, .guard⟩ (by simp) rfl)
                  rw [d18]
                  clear hd d18
                  go_wp2_with (fail)
                  refine ⟨rfl, rfl, Ch.refl _ _, gds_is rfl ?_⟩
                  (conv => lhs; whnf)
                · intro vs W hW hd
                  simp only [fill, List.setIfInBounds_toArray, List.set_cons_zero, List.set_cons_succ]
                  have d18 := gds_at rfl (hd ⟨18, .guard⟩ (by simp) rfl)
                  have d22 := gds_at rfl (hd ⟨22, .data⟩ (by simp) rfl)
                  rw [d18, d22]
                  clear hd d18 d22
                  go_wp2_with (fail)
                  refine ⟨rfl, rfl, Ch.refl _ _, gds_is rfl ?_⟩
                  (conv => lhs; whnf)
                · intro vs W hW hd
                  simp only [fill, List.setIfInBounds_toArray, List.set_cons_zero, List.set_cons_succ]
                  have d18 := gds_at rfl (hd ⟨18, .guard⟩ (by simp) rfl)
                  have d21 := gds_at rfl (hd ⟨21, .data⟩ (by simp) rfl)
                  have d23 := gds_at rfl (hd ⟨23, .data⟩ (by simp) rfl)
                  rw [d18, d21, d23]
                  clear hd d18 d21 d23
                  go_wp2_with (fail)
                  refine ⟨rfl, rfl, Ch.refl _ _, gds_is rfl ?_⟩
                  (conv => lhs; whnf)
                · intro vs W hW hd
                  simp only [fill, List.setIfInBounds_toArray, List.set_cons_zero, List.set_cons_succ]
                  have d18 := gds_at rfl (hd ⟨18, .guard⟩ (by simp) rfl)
                  have d24 := gds_at rfl (hd ⟨24, .data⟩ (by simp) rfl)
                  rw [d18, d24]
                  clear hd d18 d24
                  have hWW := (Ch.refl no w9).drew.same hW
                  have q1 := cell_ch hWW p1
                  go_wp2_with (fail)
                  refine ⟨rfl, rfl, Ch.refl _ _, gds_is rfl ?_⟩
                  (conv => lhs; whnf)
                · intro vs W hW hd
                  simp only [fill, List.setIfInBounds_toArray, List.set_cons_zero, List.set_cons_succ]
                  have d18 := gds_at rfl (hd ⟨18, .guard⟩ (by simp) rfl)
                  have d25 := gds_at rfl (hd ⟨25, .data⟩ (by simp) rfl)
                  rw [d18, d25]
                  clear hd d18 d25
                  go_wp2_with (fail)
                  exact ⟨rfl, rfl, (Ch.refl _ _).alloc _, gds_mk rfl ⟨_, rfl, bNew _ _⟩⟩
                · intro vs W hW hd
                  simp only [fill, List.setIfInBounds_toArray, List.set_cons_zero, List.set_cons_succ]
                  have d18 := gds_at rfl (hd ⟨18, .guard⟩ (by simp) rfl)
                  have d20 := gds_get rfl (hd ⟨20, .data⟩ (by simp) rfl)
                  obtain ⟨A20, k20, e20, hr20⟩ := d20
                  rw [e20]
                  have HR20 := Lib.hid hr20
                  clear hr20 e20
                  have d26 := gds_get rfl (hd ⟨26, .data⟩ (by simp) rfl)
                  obtain ⟨b26, e26, hb26⟩ := d26
                  rw [e26]
                  have HB26 := Lib.hid hb26
                  clear hb26 e26
                  rw [d18]
                  clear hd d18
                  have hWW := (Ch.refl no w9).drew.same hW
                  have q1 := cell_ch hWW p1
                  go_wp2_with (have hs := ids_any A20 (some ⟨b26, 0, none⟩) k20 1 [y] [y] W HR20.out (row_one HB26.out); rw [decide_eq_true (rfl : [y] = [y])] at hs; refine hs.mono ?_; rintro e w2 ⟨rfl, hdr⟩)
                  exact ⟨rfl, rfl, hdr.ch no, gds_is rfl rfl⟩
                · intro vs W hW hd
                  simp only [fill, List.setIfInBounds_toArray, List.set_cons_zero, List.set_cons_succ]
                  have d18 := gds_at rfl (hd ⟨18, .data⟩ (by simp) rfl)
                  have d27 := gds_at rfl (hd ⟨27, .data⟩ (by simp) rfl)
                  rw [d18, d27]
                  clear hd d18 d27
                  go_wp2_with (fail)
                  refine ⟨rfl, rfl, Ch.refl _ _, gds_is rfl ?_⟩
                  (conv => lhs; whnf)
              case fin23 =>
                intro vs W hW hd
                have d0 := gds_at rfl (hd 0 (by omega))
                have d1 := gds_at rfl (hd 1 (by omega))
                have d2 := gds_at rfl (hd 2 (by omega))
                have d3 := gds_at rfl (hd 3 (by omega))
                have d4 := gds_at rfl (hd 4 (by omega))
                have d5 := gds_at rfl (hd 5 (by omega))
                have d6 := gds_at rfl (hd 6 (by omega))
                have d7 := gds_at rfl (hd 7 (by omega))
                have d8 := gds_get rfl (hd 8 (by omega))
                have d9 := gds_at rfl (hd 9 (by omega))
                have d10 := gds_at rfl (hd 10 (by omega))
                have d11 := gds_at rfl (hd 11 (by omega))
                have d12 := gds_at rfl (hd 12 (by omega))
                have d13 := gds_at rfl (hd 13 (by omega))
                have d14 := gds_get rfl (hd 14 (by omega))
                have d15 := gds_at rfl (hd 15 (by omega))
                have d16 := gds_at rfl (hd 16 (by omega))
                have d17 := gds_at rfl (hd 17 (by omega))
                have d18 := gds_at rfl (hd 18 (by omega))
                have d19 := gds_at rfl (hd 19 (by omega))
                have d20 := gds_get rfl (hd 20 (by omega))
                have d21 := gds_at rfl (hd 21 (by omega))
                have d22 := gds_at rfl (hd 22 (by omega))
                have d23 := gds_at rfl (hd 23 (by omega))
                have d24 := gds_at rfl (hd 24 (by omega))
                have d25 := gds_at rfl (hd 25 (by omega))
                have d26 := gds_get rfl (hd 26 (by omega))
                have d27 := gds_at rfl (hd 27 (by omega))
                have d28 := gds_at rfl (hd 28 (by omega))
                refine wpList_frame (by conv => lhs; simp only [fill, List.setIfInBounds_toArray, List.set_cons_zero, List.set_cons_succ, List.take_succ_cons, List.take_zero, d0, d1, d2, d3, d4, d5, d6, d7, d9, d10, d11, d12, d13, d15, d16, d17, d18, d19, d21, d22, d23, d24, d25, d27, d28]) ?_
                simp only [List.drop_succ_cons, List.drop_zero]
                clear hd d0 d1 d2 d3 d4 d5 d6 d7 d9 d10 d11 d12 d13 d15 d16 d17 d18 d19 d21 d22 d23 d24 d25 d27 d28
                have HWZ : Hid (Ch no w9 W) := Lib.hid ((Ch.refl no w9).drew.then_ hW)
                go_wp2_with fail
                go_ret
                exact ⟨rfl, HC9.out.then_ HWZ.out⟩
end Go.Proofs.Ytlmcbmgdhpoedaa.Ef
