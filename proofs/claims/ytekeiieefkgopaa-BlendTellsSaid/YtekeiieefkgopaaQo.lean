/- The document's answer: the lines together. -/
import Derived.Test.YtekeiieefkgopaaQk
import Derived.Test.YtekeiieefkgopaaXd
import Derived.Test.YtekeiieefkgopaaXa
import Derived.Deep.LoopGhost
namespace Go.Proofs.Ytekeiieefkgopaa.Qo
open Go.RowKit Go.Proofs.Ytekeiieefkgopaa.Aa Go.Proofs.Ytekeiieefkgopaa.Vw Go.Proofs.Ytekeiieefkgopaa.Ma Go.Proofs.Ytekeiieefkgopaa.Mr Go.Proofs.Ytekeiieefkgopaa.Mb Go.Proofs.Ytekeiieefkgopaa.Mc Go.Proofs.Ytekeiieefkgopaa.Mg Go.Proofs.Ytekeiieefkgopaa.Mi Go.Proofs.Ytekeiieefkgopaa.Ne Go.Proofs.Ytekeiieefkgopaa.Nf Go.Proofs.Ytekeiieefkgopaa.Nh Go.Proofs.Ytekeiieefkgopaa.Nq Go.Proofs.Ytekeiieefkgopaa.Qi Go.Proofs.Ytekeiieefkgopaa.Qb Go.Proofs.Ytekeiieefkgopaa.Qk
set_option linter.unusedVariables false
set_option linter.unusedSimpArgs false

structure Ln (w0 w : World) (G : Nat) (cs : Array Value) (v : Value) (xs : List ByteArray) : Prop where
  own : OwnS w w0.heap.size v xs
  box : w.heap[G]? = some (.cells cs 67 (0, 0))
  ch : Ch no w0 w
theorem app_str {W : World} {ops : Array Oper} {rest : List Oper} {o : Oper} {a : Act} {Q : Exit → Act → World → Prop} (hgd : o.guard = none) (s x : Operand)
    (ho : o.op = .call { callee := .builtin .append, args := #[s, x], argTypes := #[25, 25] })
    (w0 : World) (G : Nat) (cs : Array Value) (v : Value) (xs : List ByteArray) (h : Ln w0 W G cs v xs) (hs : a.eval s = v) (y : ByteArray)
    (hx : a.eval x = .slice (some ⟨W.heap.size, 0, none⟩) 1 1) (hlen : xs.length ≤ 2000000)
    (hK : ∀ v' w', Ln w0 w' G cs v' (xs ++ [y]) → wpList Try.prog ops Q rest (a.put o.dst v') w') :
    wpList Try.prog ops Q (o :: rest) a (W.alloc (.cells #[.string y] 9)) := by
  obtain ⟨i0, hi, hz0, hz1, hz2⟩ := info_parts infoStr
  have hc : Ch no W (W.alloc (.cells #[.string y] 9)) := (Ch.refl no W).alloc _
  refine app_row (fun _ => rfl) hgd s x 25 ho w0.heap.size 9 i0 _ 16 Try.underlying25 hi hz0 hz1 hz2 rfl v xs.length _ hs (own_ch h.own hc (fun _ _ => no_not _)) (some ⟨W.heap.size, 0, none⟩) 1 [y] hx (one_row W y 9) (by unfold maxLen; simp; omega) (by simp; omega) (Nat.le_trans h.ch.size hc.size) ?_
  intro v' w' hown hgrow _
  refine hK v' w' ⟨own_app hown, ?_, Vw.Ch.grown_new (h.ch.then_ hc) hgrow (fun k hk => own_ge h.own k hk)⟩
  rw [hgrow.block G (Nat.lt_of_lt_of_le (blk_lt' h.box) hc.size) (fun e => own_type h.own h.box (by decide) e.symm)]
  exact hc.blk h.box (no_not _)
theorem cut_next (xs : List ByteArray) (f m j tj : Nat) (hj : j < m) (ht : f + j = tj) (hl : tj < xs.length) :
    ((cutL xs (f : Int) (m : Int)).take (j + 1)).map closeL = ((cutL xs (f : Int) (m : Int)).take j).map closeL ++ [closeL xs[tj]] := by
  have hg : (cutL xs (f : Int) (m : Int))[j]? = some xs[tj] := by
    unfold cutL
    rw [List.getElem?_drop, List.getElem?_take, if_pos (by omega), show (f : Int).toNat + j = tj by omega]
    exact List.getElem?_eq_getElem hl
  have hlt := (List.getElem?_eq_some_iff.1 hg).1
  rw [List.take_succ_eq_append_getElem hlt, List.map_append, (List.getElem?_eq_some_iff.1 hg).2]
  rfl
theorem cut_full (xs : List ByteArray) (f m : Nat) (h : f + m ≤ xs.length) : (cutL xs (f : Int) (m : Int)).take m = cutL xs (f : Int) (m : Int) := by
  apply List.take_of_length_le
  unfold cutL; rw [List.length_drop, List.length_take]; omega

set_option maxRecDepth 100000 in
set_option maxHeartbeats 8000000 in
theorem refLines_of (Ao Aa Ab : Option Addr) (co ca cb : Nat) (o a b : List ByteArray) (w : World) (ho : El.str.Row w Ao co o) (ha : El.str.Row w Aa ca a) (hb : El.str.Row w Ab cb b)
    (lo : o.length ≤ 1000) (la : a.length ≤ 1000) (lb : b.length ≤ 1000) (so : ∀ x ∈ o, x.size ≤ 9223372036854775806) (sa : ∀ x ∈ a, x.size ≤ 9223372036854775806) (sb : ∀ x ∈ b, x.size ≤ 9223372036854775806) (hf : Fit o a b) :
    Calls Try.prog 30 #[.slice Ao o.length co, .slice Aa a.length ca, .slice Ab b.length cb] w fun e w' => ∃ v, e = .returned (.tuple #[v, .int .i64 (clashN (regionsOf o a b))]) ∧ OwnS w' w.heap.size v (mergeL o a b) ∧ Ch no w w' := by
  obtain ⟨i0, hi, hz0, hz1, hz2⟩ := info_parts infoStr
  have HO := Lib.hid ho; have HA := Lib.hid ha; have HB := Lib.hid hb
  have hoc := ho.le; have hac := ha.le; have hbc := hb.le
  have HSO := Lib.hid so; have HSA := Lib.hid sa; have HSB := Lib.hid sb
  have HLN := Lib.hid hf.len
  have HMN := Lib.hid hf.many
  have HRS := Lib.hid hf.rs
  have HRC := Lib.hid (regions_of Ao Aa Ab co ca cb o a b w ho ha hb lo la lb)
  clear ho ha hb hf so sa sb
  show Calls _ _ _ _ fun e w' => ∃ v, _ ∧ OwnS w' w.heap.size v ((regionsOf o a b).flatMap (tellR o a b)) ∧ _
  obtain ⟨rs, hrs⟩ : ∃ rs, regionsOf o a b = rs := ⟨_, rfl⟩
  rw [hrs] at HLN HMN HRS HRC ⊢
  clear hrs
  have hmn := HMN.out
  go_enter Try.func30, Try.ntmps30
  go_wp2_with fail
  refine HRC.out.mono ?_
  rintro e w2 ⟨v, rfl, hown, hch⟩
  have HW := Lib.hid hown; have HC2 := Lib.hid hch
  clear hown hch HRC
  have HA2 := Lib.hid (HA.out.ch HC2.out); have HO2 := Lib.hid (HO.out.ch HC2.out); have HB2 := Lib.hid (HB.out.ch HC2.out)
  obtain ⟨Av, cv, rfl⟩ := own_shape HW.out
  go_wp2_with fail
  go_loopg [8, 9, 11] rs.length (fun kk v n i wr => ∃ k : Nat, k + kk = rs.length ∧ i = .int .i64 k ∧ n = .int .i64 (clashN (rs.take k) : Nat) ∧ Hid (OwnS wr w2.heap.size v ((rs.take k).flatMap (tellR o a b))) ∧ Hid (Ch no w2 wr))
  case atStart => exact ⟨0, by omega, rfl, rfl, Lib.hid ⟨rfl, .inl ⟨rfl, rfl⟩⟩, Lib.hid (Ch.refl _ _)⟩
  case round =>
    obtain ⟨k, hkk, rfl, rfl, HV, HX⟩ := hrel
    obtain ⟨ko, rfl⟩ : ∃ ko : Nat, ko = gk := ⟨_, rfl⟩
    by_cases hlt : k < rs.length
    · have hne : rs ≠ [] := by intro h; subst h; simp at hlt
      obtain ⟨g, cap, hv, hgB, hcells⟩ := OwnR.at_ HW.out hne
      cases hv
      have hcl := hcells k hlt
      have HFR := Lib.hid (HRS.out rs[k] (List.getElem_mem hlt))
      have HCN := Lib.hid (clash_next rs k hlt)
      have HFN := Lib.hid (fm_next (tellR o a b) rs k hlt)
      have hcle := clash_le rs k
      obtain ⟨PRE, hPRE⟩ : ∃ PRE, (rs.take k).flatMap (tellR o a b) = PRE := ⟨_, rfl⟩
      have hpre : PRE.length ≤ 1000000 := by rw [← hPRE]; exact Nat.le_trans (fm_len (tellR o a b) rs k) HLN.out
      rw [hPRE] at HV HFN
      obtain ⟨r, hr⟩ : ∃ r, rs[k] = r := ⟨_, rfl⟩
      rw [hr] at hcl HFR HCN HFN
      clear hr hcells hne hPRE
      obtain ⟨rk, of, om, af, am, bf, bm⟩ := r
      have c0 : wr.cell? ⟨g, k * 7, none⟩ = some (.int .i64 rk) := cell_ch HX.out ((hcl 0 (by omega)).trans rfl)
      have c1 := cell_ch HX.out ((hcl 1 (by omega)).trans rfl)
      have c2 := cell_ch HX.out ((hcl 2 (by omega)).trans rfl)
      have c3 := cell_ch HX.out ((hcl 3 (by omega)).trans rfl)
      have c4 := cell_ch HX.out ((hcl 4 (by omega)).trans rfl)
      have c5 := cell_ch HX.out ((hcl 5 (by omega)).trans rfl)
      have c6 := cell_ch HX.out ((hcl 6 (by omega)).trans rfl)
      clear hcl
      have hfa := HFR.out.a; have hfo := HFR.out.o; have hfb := HFR.out.b; have hfk := HFR.out.k
      simp only [] at hfa hfo hfb hfk
      obtain ⟨of, rfl⟩ := Int.eq_ofNat_of_zero_le hfo.1
      obtain ⟨om, rfl⟩ := Int.eq_ofNat_of_zero_le hfo.2.1
      obtain ⟨af, rfl⟩ := Int.eq_ofNat_of_zero_le hfa.1
      obtain ⟨am, rfl⟩ := Int.eq_ofNat_of_zero_le hfa.2.1
      obtain ⟨bf, rfl⟩ := Int.eq_ofNat_of_zero_le hfb.1
      obtain ⟨bm, rfl⟩ := Int.eq_ofNat_of_zero_le hfb.2.1
      have ha3 : af + am ≤ a.length := by omega
      have ho3 : of + om ≤ o.length := by omega
      have hb3 : bf + bm ≤ b.length := by omega
      clear hfa hfo hfb HFR
      have HL0 : Hid (Ln w2 (wr.alloc (.cells #[.int .i64 rk, .int .i64 (of : Nat), .int .i64 (om : Nat), .int .i64 (af : Nat), .int .i64 (am : Nat), .int .i64 (bf : Nat), .int .i64 (bm : Nat)] 67)) wr.heap.size #[.int .i64 rk, .int .i64 (of : Nat), .int .i64 (om : Nat), .int .i64 (af : Nat), .int .i64 (am : Nat), .int .i64 (bf : Nat), .int .i64 (bm : Nat)] _ PRE) :=
        ⟨own_ch HV.out ((Ch.refl no wr).alloc _) (fun _ _ => no_not _), bNew _ _, HX.out.alloc _⟩
      have hcA := cutL_le a (af : Nat) (am : Nat); have hcO := cutL_le o (of : Nat) (om : Nat); have hcB := cutL_le b (bf : Nat) (bm : Nat)
      clear HV HX
      go_upto_region 8 with (fail)
      clear c0 c1 c2 c3 c4 c5 c6
      refine wp_world (fun W => Hid (Ln w2 W wr.heap.size #[.int .i64 rk, .int .i64 (of : Nat), .int .i64 (om : Nat), .int .i64 (af : Nat), .int .i64 (am : Nat), .int .i64 (bf : Nat), .int .i64 (bm : Nat)] _ PRE)) HL0 ?_
      clear HL0
      intro W0 HL
      generalize wr.heap.size = G at HL ⊢
      have c0 := (bCell HL.out.box 0).trans rfl; have c1 := (bCell HL.out.box 1).trans rfl; have c2 := (bCell HL.out.box 2).trans rfl; have c3 := (bCell HL.out.box 3).trans rfl
      have c4 := (bCell HL.out.box 4).trans rfl; have c5 := (bCell HL.out.box 5).trans rfl; have c6 := (bCell HL.out.box 6).trans rfl
      have hcle2 : ((clashN (rs.take k) : Nat) : Int) ≤ 1000000 := by omega
      rcases hfk with rfl | rfl | rfl | rfl | rfl
      ·
        have hcl := hac
        obtain ⟨A', hcut, hrow⟩ := cut_lh (P := Try.prog) (d := El.str) 25 9 .i64 .i64 Try.underlying25 hi hz1 Aa ca a (af : Nat) ((af : Int) + am) (by omega) (by omega) (by omega) hcl
        obtain ⟨LA, hLA⟩ : ∃ LA, ((a).take ((af : Int) + (am : Nat)).toNat).drop ((af : Nat) : Int).toNat = LA := ⟨_, rfl⟩
        obtain ⟨cA, hcA⟩ : ∃ cA, ca - ((af : Nat) : Int).toNat = cA := ⟨_, rfl⟩
        rw [hLA, hcA] at hcut hrow
        have HLA : Hid (cutL a (af : Nat) (am : Nat) = LA) := hLA
        have hll : LA.length ≤ 1000 := by rw [← hLA, List.length_drop, List.length_take]; omega
        have HROW := Lib.hid (hrow _ (HA2.out.ch HL.out.ch))
        have hw : IntKind.i64.wrap ((af : Int) + am) = (af : Int) + am := IntWalk.i64_in _ (by omega)
        clear hLA hcA hrow
        go_wp2_with (at_builtin; refine app_row (fun _ => rfl) rfl _ _ 25 rfl w2.heap.size 9 i0 _ 16 Try.underlying25 hi hz0 hz1 hz2 rfl _ PRE.length _ rfl HL.out.own A' cA LA rfl HROW.out (by unfold maxLen; omega) (by omega) HL.out.ch.size ?_; intro v' w' hown hgrow _; have HOW := Lib.hid (own_app hown); have HCX := Lib.hid (Vw.Ch.grown_new HL.out.ch hgrow (fun k hk => own_ge HL.out.own k hk)); clear hown hgrow)
        go_roundg (ko - 1)
        case rel =>
          refine ⟨k + 1, by omega, by go_num, by rw [HCN.out]; simp, ?_, HCX⟩
          have hT : tellR o a b ⟨0, (of : Nat), (om : Nat), (af : Nat), (am : Nat), (bf : Nat), (bm : Nat)⟩ = cutL a (af : Nat) (am : Nat) := by simp [tellR]
          rw [HFN.out, hT, HLA.out]
          exact HOW
        case measure => omega
      ·
        have hcl := hac
        obtain ⟨A', hcut, hrow⟩ := cut_lh (P := Try.prog) (d := El.str) 25 9 .i64 .i64 Try.underlying25 hi hz1 Aa ca a (af : Nat) ((af : Int) + am) (by omega) (by omega) (by omega) hcl
        obtain ⟨LA, hLA⟩ : ∃ LA, ((a).take ((af : Int) + (am : Nat)).toNat).drop ((af : Nat) : Int).toNat = LA := ⟨_, rfl⟩
        obtain ⟨cA, hcA⟩ : ∃ cA, ca - ((af : Nat) : Int).toNat = cA := ⟨_, rfl⟩
        rw [hLA, hcA] at hcut hrow
        have HLA : Hid (cutL a (af : Nat) (am : Nat) = LA) := hLA
        have hll : LA.length ≤ 1000 := by rw [← hLA, List.length_drop, List.length_take]; omega
        have HROW := Lib.hid (hrow _ (HA2.out.ch HL.out.ch))
        have hw : IntKind.i64.wrap ((af : Int) + am) = (af : Int) + am := IntWalk.i64_in _ (by omega)
        clear hLA hcA hrow
        go_wp2_with (at_builtin; refine app_row (fun _ => rfl) rfl _ _ 25 rfl w2.heap.size 9 i0 _ 16 Try.underlying25 hi hz0 hz1 hz2 rfl _ PRE.length _ rfl HL.out.own A' cA LA rfl HROW.out (by unfold maxLen; omega) (by omega) HL.out.ch.size ?_; intro v' w' hown hgrow _; have HOW := Lib.hid (own_app hown); have HCX := Lib.hid (Vw.Ch.grown_new HL.out.ch hgrow (fun k hk => own_ge HL.out.own k hk)); clear hown hgrow)
        go_roundg (ko - 1)
        case rel =>
          refine ⟨k + 1, by omega, by go_num, by rw [HCN.out]; simp, ?_, HCX⟩
          have hT : tellR o a b ⟨1, (of : Nat), (om : Nat), (af : Nat), (am : Nat), (bf : Nat), (bm : Nat)⟩ = cutL a (af : Nat) (am : Nat) := by simp [tellR]
          rw [HFN.out, hT, HLA.out]
          exact HOW
        case measure => omega
      ·
        have hcl := hbc
        obtain ⟨A', hcut, hrow⟩ := cut_lh (P := Try.prog) (d := El.str) 25 9 .i64 .i64 Try.underlying25 hi hz1 Ab cb b (bf : Nat) ((bf : Int) + bm) (by omega) (by omega) (by omega) hcl
        obtain ⟨LA, hLA⟩ : ∃ LA, ((b).take ((bf : Int) + (bm : Nat)).toNat).drop ((bf : Nat) : Int).toNat = LA := ⟨_, rfl⟩
        obtain ⟨cA, hcA⟩ : ∃ cA, cb - ((bf : Nat) : Int).toNat = cA := ⟨_, rfl⟩
        rw [hLA, hcA] at hcut hrow
        have HLA : Hid (cutL b (bf : Nat) (bm : Nat) = LA) := hLA
        have hll : LA.length ≤ 1000 := by rw [← hLA, List.length_drop, List.length_take]; omega
        have HROW := Lib.hid (hrow _ (HB2.out.ch HL.out.ch))
        have hw : IntKind.i64.wrap ((bf : Int) + bm) = (bf : Int) + bm := IntWalk.i64_in _ (by omega)
        clear hLA hcA hrow
        go_wp2_with (at_builtin; refine app_row (fun _ => rfl) rfl _ _ 25 rfl w2.heap.size 9 i0 _ 16 Try.underlying25 hi hz0 hz1 hz2 rfl _ PRE.length _ rfl HL.out.own A' cA LA rfl HROW.out (by unfold maxLen; omega) (by omega) HL.out.ch.size ?_; intro v' w' hown hgrow _; have HOW := Lib.hid (own_app hown); have HCX := Lib.hid (Vw.Ch.grown_new HL.out.ch hgrow (fun k hk => own_ge HL.out.own k hk)); clear hown hgrow)
        go_roundg (ko - 1)
        case rel =>
          refine ⟨k + 1, by omega, by go_num, by rw [HCN.out]; simp, ?_, HCX⟩
          have hT : tellR o a b ⟨2, (of : Nat), (om : Nat), (af : Nat), (am : Nat), (bf : Nat), (bm : Nat)⟩ = cutL b (bf : Nat) (bm : Nat) := by simp [tellR]
          rw [HFN.out, hT, HLA.out]
          exact HOW
        case measure => omega
      ·
        have hcl := hac
        obtain ⟨A', hcut, hrow⟩ := cut_lh (P := Try.prog) (d := El.str) 25 9 .i64 .i64 Try.underlying25 hi hz1 Aa ca a (af : Nat) ((af : Int) + am) (by omega) (by omega) (by omega) hcl
        obtain ⟨LA, hLA⟩ : ∃ LA, ((a).take ((af : Int) + (am : Nat)).toNat).drop ((af : Nat) : Int).toNat = LA := ⟨_, rfl⟩
        obtain ⟨cA, hcA⟩ : ∃ cA, ca - ((af : Nat) : Int).toNat = cA := ⟨_, rfl⟩
        rw [hLA, hcA] at hcut hrow
        have HLA : Hid (cutL a (af : Nat) (am : Nat) = LA) := hLA
        have hll : LA.length ≤ 1000 := by rw [← hLA, List.length_drop, List.length_take]; omega
        have HROW := Lib.hid (hrow _ (HA2.out.ch HL.out.ch))
        have hw : IntKind.i64.wrap ((af : Int) + am) = (af : Int) + am := IntWalk.i64_in _ (by omega)
        clear hLA hcA hrow
        go_wp2_with (at_builtin; refine app_row (fun _ => rfl) rfl _ _ 25 rfl w2.heap.size 9 i0 _ 16 Try.underlying25 hi hz0 hz1 hz2 rfl _ PRE.length _ rfl HL.out.own A' cA LA rfl HROW.out (by unfold maxLen; omega) (by omega) HL.out.ch.size ?_; intro v' w' hown hgrow _; have HOW := Lib.hid (own_app hown); have HCX := Lib.hid (Vw.Ch.grown_new HL.out.ch hgrow (fun k hk => own_ge HL.out.own k hk)); clear hown hgrow)
        go_roundg (ko - 1)
        case rel =>
          refine ⟨k + 1, by omega, by go_num, by rw [HCN.out]; simp, ?_, HCX⟩
          have hT : tellR o a b ⟨3, (of : Nat), (om : Nat), (af : Nat), (am : Nat), (bf : Nat), (bm : Nat)⟩ = cutL a (af : Nat) (am : Nat) := by simp [tellR]
          rw [HFN.out, hT, HLA.out]
          exact HOW
        case measure => omega
      · go_wp2_with fail
        refine (refMark_of 60 _ (by decide)).mono ?_
        rintro e wq ⟨rfl, hwq⟩
        subst hwq
        go_wp2_with (at_builtin; refine app_str rfl _ _ rfl w2 _ _ _ _ HL.out rfl (⟨#[60, 60, 60, 60, 60, 60, 60, 10]⟩ : ByteArray) rfl (by first | omega | (simp only [List.length_append, List.length_map, List.length_cons, List.length_nil]; omega)) ?_; intro v' w' h'; have HM1 := Lib.hid h'; clear h')
        clear HL c0 c1 c2 c3 c4 c5 c6
        go_loopg [8, 13] (am) (fun kk v8 vi wx => ∃ j : Nat, j + kk = am ∧ vi = .int .i64 j ∧ Hid (Ln w2 wx G #[.int .i64 4, .int .i64 (of : Nat), .int .i64 (om : Nat), .int .i64 (af : Nat), .int .i64 (am : Nat), .int .i64 (bf : Nat), .int .i64 (bm : Nat)] v8 ((PRE ++ [(⟨#[60, 60, 60, 60, 60, 60, 60, 10]⟩ : ByteArray)]) ++ ((cutL a (af : Nat) (am : Nat)).take j).map closeL)))
        case atStart => exact ⟨0, by omega, rfl, by rw [List.take_zero, List.map_nil, List.append_nil]; exact HM1⟩
        case round =>
          clear HM1
          obtain ⟨j, hj, rfl, HJ⟩ := hrel
          have c0 := (bCell HJ.out.box 0).trans rfl; have c1 := (bCell HJ.out.box 1).trans rfl; have c2 := (bCell HJ.out.box 2).trans rfl; have c3 := (bCell HJ.out.box 3).trans rfl
          have c4 := (bCell HJ.out.box 4).trans rfl; have c5 := (bCell HJ.out.box 5).trans rfl; have c6 := (bCell HJ.out.box 6).trans rfl
          by_cases hlt : j < am
          · obtain ⟨tj, htj⟩ : ∃ tj, af + j = tj := ⟨_, rfl⟩
            have htl : tj < (a).length := by omega
            obtain ⟨ad, ead, hca⟩ := (HA2.out.ch HJ.out.ch).flat_at tj htl
            cases ead
            have hwj : IntKind.i64.wrap ((af : Int) + j) = (tj : Int) := by rw [IntWalk.i64_in _ (by omega)]; omega
            have htli : (tj : Int) < ((a).length : Int) := by omega
            have HNX : Hid (((cutL a (af : Nat) (am : Nat)).take (j + 1)).map closeL = ((cutL a (af : Nat) (am : Nat)).take j).map closeL ++ [closeL ((a)[tj]'htl)]) := cut_next a af am j tj hlt htj htl
            have hsz := HSA.out _ (List.getElem_mem htl)
            have hpl : ((PRE ++ [(⟨#[60, 60, 60, 60, 60, 60, 60, 10]⟩ : ByteArray)]) ++ ((cutL a (af : Nat) (am : Nat)).take j).map closeL).length ≤ 2000000 := by
              simp only [List.length_append, List.length_map, List.length_cons, List.length_nil, List.length_take]
              omega
            clear htj
            go_wp2_with fail
            refine (refClosed_of ((a)[tj]'htl) _ hsz).mono ?_
            rintro e wq ⟨rfl, hwq⟩
            subst hwq
            go_wp2_with (at_builtin; refine app_str rfl _ _ rfl w2 _ _ _ _ HJ.out rfl _ rfl hpl ?_; intro v' w' h'; have HJ2 := Lib.hid h'; clear h')
            go_roundg (gk - 1)
            case rel => exact ⟨j + 1, by omega, by go_num, by rw [HNX.out, ← List.append_assoc]; exact HJ2⟩
            case measure => omega
          · have e : am = j := by omega
            subst e
            rw [cut_full _ _ _ (by omega)] at HJ
            clear hlt hj
            go_wp2_with fail
            refine (refMark_of 124 _ (by decide)).mono ?_
            rintro e wq ⟨rfl, hwq⟩
            subst hwq
            go_wp2_with (at_builtin; refine app_str rfl _ _ rfl w2 _ _ _ _ HJ.out rfl (⟨#[124, 124, 124, 124, 124, 124, 124, 10]⟩ : ByteArray) rfl (by first | omega | (simp only [List.length_append, List.length_map, List.length_cons, List.length_nil]; omega)) ?_; intro v' w' h'; have HM2 := Lib.hid h'; clear h')
            clear HJ c0 c1 c2 c3 c4 c5 c6
            go_loopg [8, 14] (om) (fun kk v8 vi wx => ∃ j : Nat, j + kk = om ∧ vi = .int .i64 j ∧ Hid (Ln w2 wx G #[.int .i64 4, .int .i64 (of : Nat), .int .i64 (om : Nat), .int .i64 (af : Nat), .int .i64 (am : Nat), .int .i64 (bf : Nat), .int .i64 (bm : Nat)] v8 ((PRE ++ [(⟨#[60, 60, 60, 60, 60, 60, 60, 10]⟩ : ByteArray)] ++ (cutL a (af : Nat) (am : Nat)).map closeL ++ [(⟨#[124, 124, 124, 124, 124, 124, 124, 10]⟩ : ByteArray)]) ++ ((cutL o (of : Nat) (om : Nat)).take j).map closeL)))
            case atStart => exact ⟨0, by omega, rfl, by rw [List.take_zero, List.map_nil, List.append_nil]; exact HM2⟩
            case round =>
              clear HM2
              obtain ⟨j, hj, rfl, HJ⟩ := hrel
              have c0 := (bCell HJ.out.box 0).trans rfl; have c1 := (bCell HJ.out.box 1).trans rfl; have c2 := (bCell HJ.out.box 2).trans rfl; have c3 := (bCell HJ.out.box 3).trans rfl
              have c4 := (bCell HJ.out.box 4).trans rfl; have c5 := (bCell HJ.out.box 5).trans rfl; have c6 := (bCell HJ.out.box 6).trans rfl
              by_cases hlt : j < om
              · obtain ⟨tj, htj⟩ : ∃ tj, of + j = tj := ⟨_, rfl⟩
                have htl : tj < (o).length := by omega
                obtain ⟨ad, ead, hca⟩ := (HO2.out.ch HJ.out.ch).flat_at tj htl
                cases ead
                have hwj : IntKind.i64.wrap ((of : Int) + j) = (tj : Int) := by rw [IntWalk.i64_in _ (by omega)]; omega
                have htli : (tj : Int) < ((o).length : Int) := by omega
                have HNX : Hid (((cutL o (of : Nat) (om : Nat)).take (j + 1)).map closeL = ((cutL o (of : Nat) (om : Nat)).take j).map closeL ++ [closeL ((o)[tj]'htl)]) := cut_next o of om j tj hlt htj htl
                have hsz := HSO.out _ (List.getElem_mem htl)
                have hpl : ((PRE ++ [(⟨#[60, 60, 60, 60, 60, 60, 60, 10]⟩ : ByteArray)] ++ (cutL a (af : Nat) (am : Nat)).map closeL ++ [(⟨#[124, 124, 124, 124, 124, 124, 124, 10]⟩ : ByteArray)]) ++ ((cutL o (of : Nat) (om : Nat)).take j).map closeL).length ≤ 2000000 := by
                  simp only [List.length_append, List.length_map, List.length_cons, List.length_nil, List.length_take]
                  omega
                clear htj
                go_wp2_with fail
                refine (refClosed_of ((o)[tj]'htl) _ hsz).mono ?_
                rintro e wq ⟨rfl, hwq⟩
                subst hwq
                go_wp2_with (at_builtin; refine app_str rfl _ _ rfl w2 _ _ _ _ HJ.out rfl _ rfl hpl ?_; intro v' w' h'; have HJ2 := Lib.hid h'; clear h')
                go_roundg (gk - 1)
                case rel => exact ⟨j + 1, by omega, by go_num, by rw [HNX.out, ← List.append_assoc]; exact HJ2⟩
                case measure => omega
              · have e : om = j := by omega
                subst e
                rw [cut_full _ _ _ (by omega)] at HJ
                clear hlt hj
                go_wp2_with fail
                refine (refMark_of 61 _ (by decide)).mono ?_
                rintro e wq ⟨rfl, hwq⟩
                subst hwq
                go_wp2_with (at_builtin; refine app_str rfl _ _ rfl w2 _ _ _ _ HJ.out rfl (⟨#[61, 61, 61, 61, 61, 61, 61, 10]⟩ : ByteArray) rfl (by first | omega | (simp only [List.length_append, List.length_map, List.length_cons, List.length_nil]; omega)) ?_; intro v' w' h'; have HM3 := Lib.hid h'; clear h')
                clear HJ c0 c1 c2 c3 c4 c5 c6
                go_loopg [8, 15] (bm) (fun kk v8 vi wx => ∃ j : Nat, j + kk = bm ∧ vi = .int .i64 j ∧ Hid (Ln w2 wx G #[.int .i64 4, .int .i64 (of : Nat), .int .i64 (om : Nat), .int .i64 (af : Nat), .int .i64 (am : Nat), .int .i64 (bf : Nat), .int .i64 (bm : Nat)] v8 ((PRE ++ [(⟨#[60, 60, 60, 60, 60, 60, 60, 10]⟩ : ByteArray)] ++ (cutL a (af : Nat) (am : Nat)).map closeL ++ [(⟨#[124, 124, 124, 124, 124, 124, 124, 10]⟩ : ByteArray)] ++ (cutL o (of : Nat) (om : Nat)).map closeL ++ [(⟨#[61, 61, 61, 61, 61, 61, 61, 10]⟩ : ByteArray)]) ++ ((cutL b (bf : Nat) (bm : Nat)).take j).map closeL)))
                case atStart => exact ⟨0, by omega, rfl, by rw [List.take_zero, List.map_nil, List.append_nil]; exact HM3⟩
                case round =>
                  clear HM3
                  obtain ⟨j, hj, rfl, HJ⟩ := hrel
                  have c0 := (bCell HJ.out.box 0).trans rfl; have c1 := (bCell HJ.out.box 1).trans rfl; have c2 := (bCell HJ.out.box 2).trans rfl; have c3 := (bCell HJ.out.box 3).trans rfl
                  have c4 := (bCell HJ.out.box 4).trans rfl; have c5 := (bCell HJ.out.box 5).trans rfl; have c6 := (bCell HJ.out.box 6).trans rfl
                  by_cases hlt : j < bm
                  · obtain ⟨tj, htj⟩ : ∃ tj, bf + j = tj := ⟨_, rfl⟩
                    have htl : tj < (b).length := by omega
                    obtain ⟨ad, ead, hca⟩ := (HB2.out.ch HJ.out.ch).flat_at tj htl
                    cases ead
                    have hwj : IntKind.i64.wrap ((bf : Int) + j) = (tj : Int) := by rw [IntWalk.i64_in _ (by omega)]; omega
                    have htli : (tj : Int) < ((b).length : Int) := by omega
                    have HNX : Hid (((cutL b (bf : Nat) (bm : Nat)).take (j + 1)).map closeL = ((cutL b (bf : Nat) (bm : Nat)).take j).map closeL ++ [closeL ((b)[tj]'htl)]) := cut_next b bf bm j tj hlt htj htl
                    have hsz := HSB.out _ (List.getElem_mem htl)
                    have hpl : ((PRE ++ [(⟨#[60, 60, 60, 60, 60, 60, 60, 10]⟩ : ByteArray)] ++ (cutL a (af : Nat) (am : Nat)).map closeL ++ [(⟨#[124, 124, 124, 124, 124, 124, 124, 10]⟩ : ByteArray)] ++ (cutL o (of : Nat) (om : Nat)).map closeL ++ [(⟨#[61, 61, 61, 61, 61, 61, 61, 10]⟩ : ByteArray)]) ++ ((cutL b (bf : Nat) (bm : Nat)).take j).map closeL).length ≤ 2000000 := by
                      simp only [List.length_append, List.length_map, List.length_cons, List.length_nil, List.length_take]
                      omega
                    clear htj
                    go_wp2_with fail
                    refine (refClosed_of ((b)[tj]'htl) _ hsz).mono ?_
                    rintro e wq ⟨rfl, hwq⟩
                    subst hwq
                    go_wp2_with (at_builtin; refine app_str rfl _ _ rfl w2 _ _ _ _ HJ.out rfl _ rfl hpl ?_; intro v' w' h'; have HJ2 := Lib.hid h'; clear h')
                    go_roundg (gk - 1)
                    case rel => exact ⟨j + 1, by omega, by go_num, by rw [HNX.out, ← List.append_assoc]; exact HJ2⟩
                    case measure => omega
                  · have e : bm = j := by omega
                    subst e
                    rw [cut_full _ _ _ (by omega)] at HJ
                    clear hlt hj
                    go_wp2_with fail
                    refine (refMark_of 62 _ (by decide)).mono ?_
                    rintro e wq ⟨rfl, hwq⟩
                    subst hwq
                    go_wp2_with (at_builtin; refine app_str rfl _ _ rfl w2 _ _ _ _ HJ.out rfl (⟨#[62, 62, 62, 62, 62, 62, 62, 10]⟩ : ByteArray) rfl (by first | omega | (simp only [List.length_append, List.length_map, List.length_cons, List.length_nil]; omega)) ?_; intro v' w' h'; have HM4 := Lib.hid h'; clear h')
                    clear HJ c0 c1 c2 c3 c4 c5 c6
                    go_roundg (ko - 1)
                    case rel =>
                      refine ⟨k + 1, by omega, by go_num, by rw [HCN.out]; simp, ?_, HM4.out.ch⟩
                      have h := HM4.out.own
                      have hT : tellR o a b ⟨4, (of : Nat), (om : Nat), (af : Nat), (am : Nat), (bf : Nat), (bm : Nat)⟩ = [ours] ++ ((cutL a (af : Nat) (am : Nat)).map closeL ++ ([base] ++ ((cutL o (of : Nat) (om : Nat)).map closeL ++ ([middle] ++ ((cutL b (bf : Nat) (bm : Nat)).map closeL ++ [theirs]))))) := by
                        simp [tellR, clashParts]
                      rw [HFN.out, hT]
                      simp only [List.append_assoc] at h
                      exact h
                    case measure => omega
    · have e : k = rs.length := by omega
      subst e
      have HALL : Hid (rs.take rs.length = rs) := Lib.hid List.take_length
      rw [HALL.out] at HV ⊢
      go_wp2_with fail
      go_ret2
      exact ⟨_, rfl, own_less HV.out HC2.out.size, HC2.out.then_ HX.out⟩
end Go.Proofs.Ytekeiieefkgopaa.Qo
