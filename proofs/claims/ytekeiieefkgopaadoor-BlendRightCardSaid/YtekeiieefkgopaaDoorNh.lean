/- merge.Lines. -/
import Derived.Test.YtekeiieefkgopaaDoorNg
import Derived.Test.YtekeiieefkgopaaDoorMd
namespace Go.Proofs.YtekeiieefkgopaaDoor.Nh
open Go.RowKit Go.Proofs.YtekeiieefkgopaaDoor.Aa Go.Proofs.YtekeiieefkgopaaDoor.Vw Go.Proofs.YtekeiieefkgopaaDoor.Ma Go.Proofs.YtekeiieefkgopaaDoor.Mr Go.Proofs.YtekeiieefkgopaaDoor.Mb Go.Proofs.YtekeiieefkgopaaDoor.Mc Go.Proofs.YtekeiieefkgopaaDoor.Md Go.Proofs.YtekeiieefkgopaaDoor.Mp Go.Proofs.YtekeiieefkgopaaDoor.Mg Go.Proofs.YtekeiieefkgopaaDoor.Mi Go.Proofs.YtekeiieefkgopaaDoor.Na Go.Proofs.YtekeiieefkgopaaDoor.Nb Go.Proofs.YtekeiieefkgopaaDoor.Nc Go.Proofs.YtekeiieefkgopaaDoor.Ne Go.Proofs.YtekeiieefkgopaaDoor.Nf Go.Proofs.YtekeiieefkgopaaDoor.Ng
set_option linter.unusedVariables false
set_option linter.unusedSimpArgs false

/-- A region's lines, told. -/
def tellR (o a b : List ByteArray) (r : Reg) : List ByteArray :=
  if r.k = 2 then cutL b r.bf r.bm else if r.k = 4 then (clashParts o a b r).flatten else cutL a r.af r.am
def isClash (r : Reg) : Bool := decide (r.k = 4)
def clashN (rs : List Reg) : Nat := (rs.filter isClash).length
/-- A region that lies within the lists. -/
structure FitR (o a b : List ByteArray) (r : Reg) : Prop where
  k : r.k = 0 ∨ r.k = 1 ∨ r.k = 2 ∨ r.k = 3 ∨ r.k = 4
  a : 0 ≤ r.af ∧ 0 ≤ r.am ∧ r.af + r.am ≤ a.length
  o : 0 ≤ r.of ∧ 0 ≤ r.om ∧ r.of + r.om ≤ o.length
  b : 0 ≤ r.bf ∧ 0 ≤ r.bm ∧ r.bf + r.bm ≤ b.length
/-- All that the walk leans on. -/
structure Fit (o a b : List ByteArray) : Prop where
  lo : o.length * 16 ≤ 1000000
  la : a.length * 16 ≤ 1000000
  lb : b.length * 16 ≤ 1000000
  so : ∀ x ∈ o, x.size ≤ 9223372036854775806
  sa : ∀ x ∈ a, x.size ≤ 9223372036854775806
  sb : ∀ x ∈ b, x.size ≤ 9223372036854775806
  sl : SmallE (diffOf o a)
  sr : SmallE (diffOf o b)
  good : ∀ pre x r, clusOf (diffOf o a) (diffOf o b) = pre ++ x :: r → GoodS a b (runS a b pre) x
  fin : (runS a b (clusOf (diffOf o a) (diffOf o b))).at_ ≤ 1000000 ∧ smallR (runS a b (clusOf (diffOf o a) (diffOf o b))).last ∧ (runS a b (clusOf (diffOf o a) (diffOf o b))).out.length ≤ 900000000
  rs : ∀ r ∈ regionsOf o a b, FitR o a b r
  len : ((regionsOf o a b).flatMap (tellR o a b)).length ≤ 1000000
  many : (regionsOf o a b).length ≤ 1000000

theorem fm_len {α β : Type} (f : α → List β) (l : List α) (k : Nat) : ((l.take k).flatMap f).length ≤ (l.flatMap f).length := by
  conv => rhs; rw [← List.take_append_drop k l, List.flatMap_append, List.length_append]
  omega
theorem fm_next {α β : Type} (f : α → List β) (l : List α) (k : Nat) (h : k < l.length) : (l.take (k + 1)).flatMap f = (l.take k).flatMap f ++ f l[k] := by
  rw [List.take_succ_eq_append_getElem h, List.flatMap_append]; simp
theorem clash_next (l : List Reg) (k : Nat) (h : k < l.length) : clashN (l.take (k + 1)) = clashN (l.take k) + if l[k].k = 4 then 1 else 0 := by
  unfold clashN
  rw [List.take_succ_eq_append_getElem h, List.filter_append, List.length_append]
  by_cases hk : l[k].k = 4 <;> simp [isClash, hk]
theorem clash_le (l : List Reg) (k : Nat) : clashN (l.take k) ≤ l.length := by
  unfold clashN
  exact Nat.le_trans (List.length_filter_le _ _) (by simp; omega)

/-- Regions in memory. -/
theorem OwnR.at_ {w : World} {B : Nat} {v : Value} {rs : List Reg} (h : OwnR w B v rs) (hne : rs ≠ []) : ∃ g cap, v = .slice (some ⟨g, 0, none⟩) rs.length cap ∧ B ≤ g ∧ ∀ k (hk : k < rs.length) j, j < 7 → w.cell? ⟨g, k * 7 + j, none⟩ = rs[k].cells[j]? := by
  unfold OwnR at h
  obtain ⟨hl, ⟨rfl, hn⟩ | ⟨g, cap, cur, rfl, hb, hg, hnc, hc, hs, ht⟩⟩ := h
  · exfalso
    rw [List.length_eq_zero_iff] at hn
    exact hne hn
  · refine ⟨g, cap, rfl, hb, fun k hk j hj => ?_⟩
    rw [bCell hg]
    have e : rs = rs.take k ++ rs[k] :: rs.drop (k + 1) := by rw [← List.drop_eq_getElem_cons hk, List.take_append_drop]
    have h4 : (rs.flatMap Reg.cells)[k * 7 + j]? = rs[k].cells[j]? := by
      conv => lhs; rw [e]
      rw [List.flatMap_append, List.getElem?_append_right (by rw [flat_len7]; simp; omega), flat_len7, List.length_take, Nat.min_eq_left (by omega), show k * 7 + j - k * 7 = j from by omega, List.flatMap_cons, List.getElem?_append_left (by show j < 7; exact hj)]
    rw [← ht, List.getElem?_take, if_pos (by omega), Array.getElem?_toList] at h4
    exact h4

theorem zeroFn (w : World) : (zeroValue 145).run Tryd.prog w = .ok .nilFunc w := by kernel_rfl
theorem own_app {w : World} {B : Nat} {v : Value} {xs ys : List ByteArray} (h : w.ownsRow B 9 1 v (xs.length + ys.length) (xs.map Value.string ++ ys.map Value.string)) : OwnS w B v (xs ++ ys) := by
  show w.ownsRow B 9 1 v (xs ++ ys).length ((xs ++ ys).map Value.string)
  rw [List.length_append, List.map_append]; exact h
theorem clash_bd {m n k c : Nat} (h : m = n + k) (h1 : n ≤ c) (h2 : c ≤ 1000000) : (n : Int) ≤ 1000000 := by omega

set_option maxRecDepth 100000 in
set_option maxHeartbeats 4000000 in
theorem lines_any (Ao Aa Ab : Option Addr) (co ca cb : Nat) (o a b : List ByteArray) (w : World) (ho : El.str.Row w Ao co o) (ha : El.str.Row w Aa ca a) (hb : El.str.Row w Ab cb b) (hf : Fit o a b) :
    Calls Tryd.prog 95 #[.slice Ao o.length co, .slice Aa a.length ca, .slice Ab b.length cb] w fun e w' => ∃ v, e = .returned (.tuple #[v, .int .i64 (clashN (regionsOf o a b))]) ∧ OwnS w' w.heap.size v ((regionsOf o a b).flatMap (tellR o a b)) ∧ Ch no w w' := by
  obtain ⟨i0, hi, hz0, hz1, hz2⟩ := info_parts infoStr
  have HO := Lib.hid ho; have HA := Lib.hid ha; have HB := Lib.hid hb; have HF := Lib.hid hf
  have hoc := ho.le; have hac := ha.le; have hbc := hb.le
  have HLN := Lib.hid hf.len
  have HMN := Lib.hid hf.many
  have HRS := Lib.hid hf.rs
  clear ho ha hb hf
  obtain ⟨rs, hrs⟩ : ∃ rs, regionsOf o a b = rs := ⟨_, rfl⟩
  rw [hrs] at HLN HMN HRS ⊢
  have HR := Lib.hid hrs
  clear hrs
  have hmn := HMN.out
  go_enter Tryd.func95, Tryd.ntmps95
  go_wp2_with fail
  refine (tellers_any Aa Ao Ab ca co cb o a b _).mono ?_
  rintro e w1 ⟨m, ba, bo, bb, rfl, ht, hba, hbo, hbb, hch⟩
  have HT := Lib.hid ht; have HBA := Lib.hid hba; have HBO := Lib.hid hbo; have HBB := Lib.hid hbb; have HC1 := Lib.hid hch
  clear ht hba hbo hbb hch
  go_wp2_with fail
  refine (regions_any Ao Aa Ab co ca cb o a b _ (HO.out.ch HC1.out) (HA.out.ch HC1.out) (HB.out.ch HC1.out) (by have := HF.out.lo; omega) (by have := HF.out.la; omega) (by have := HF.out.lb; omega) HF.out.sl HF.out.sr HF.out.good HF.out.fin).mono ?_
  rintro e w2 ⟨v, rfl, hown, hch⟩
  rw [HR.out] at hown
  have HW := Lib.hid hown; have HC2 := Lib.hid (HC1.out.same hch); have HC3 := Lib.hid hch
  clear hown hch
  obtain ⟨Av, cv, rfl⟩ := own_shape HW.out
  go_wp2_with fail
  go_loopw [8, 9, 22] (fun v n i wr => ∃ k : Nat, k ≤ rs.length ∧ i = .int .i64 k ∧ n = .int .i64 (clashN (rs.take k) : Nat) ∧ Hid (OwnS wr w2.heap.size v ((rs.take k).flatMap (tellR o a b))) ∧ Hid (Ch no w2 wr)) (fun _ _ i _ => rs.length - (intOf i).toNat)
  case atStart => exact ⟨0, by omega, rfl, rfl, Lib.hid ⟨rfl, .inl ⟨rfl, rfl⟩⟩, Lib.hid (Ch.refl _ _)⟩
  case round =>
    obtain ⟨k, hk, rfl, rfl, HV, HX⟩ := hrel
    by_cases hlt : k < rs.length
    · have hne : rs ≠ [] := by intro h; subst h; simp at hlt
      obtain ⟨g, cap, hv, hgB, hcells⟩ := OwnR.at_ HW.out hne
      cases hv
      have hcl := hcells k hlt
      have HFR := Lib.hid (HRS.out rs[k] (List.getElem_mem hlt))
      have HCN := Lib.hid (clash_next rs k hlt)
      have HFN := Lib.hid (fm_next (tellR o a b) rs k hlt)
      have HFL := Lib.hid (fm_len (tellR o a b) rs (k + 1))
      have hcle := clash_le rs k
      obtain ⟨r, hr⟩ : ∃ r, rs[k] = r := ⟨_, rfl⟩
      rw [hr] at hcl HFR HCN HFN
      clear hr hcells hne
      obtain ⟨rk, of, om, af, am, bf, bm⟩ := r
      have c0 : wr.cell? ⟨g, k * 7, none⟩ = some (.int .i64 rk) := cell_ch HX.out ((hcl 0 (by omega)).trans rfl)
      have c1 := cell_ch HX.out ((hcl 1 (by omega)).trans rfl)
      have c2 := cell_ch HX.out ((hcl 2 (by omega)).trans rfl)
      have c3 := cell_ch HX.out ((hcl 3 (by omega)).trans rfl)
      have c4 := cell_ch HX.out ((hcl 4 (by omega)).trans rfl)
      have c5 := cell_ch HX.out ((hcl 5 (by omega)).trans rfl)
      have c6 := cell_ch HX.out ((hcl 6 (by omega)).trans rfl)
      clear hcl
      go_upto_region 7 with (fail)
      obtain ⟨M, hm, g0, g1, g3, g2, g4⟩ := HT.out.map
      have hWW : Ch no w1 (wr.alloc (.cells #[.int .i64 rk, .int .i64 of, .int .i64 om, .int .i64 af, .int .i64 am, .int .i64 bf, .int .i64 bm] 144)) := (HC3.out.same HX.out).alloc _
      have HM := Lib.hid (hm.ch hWW (no_not _))
      have HBA2 := Lib.hid (hWW.blk HBA.out (no_not _)); have HBO2 := Lib.hid (hWW.blk HBO.out (no_not _)); have HBB2 := Lib.hid (hWW.blk HBB.out (no_not _))
      have hw0 : Ch no w (wr.alloc (.cells #[.int .i64 rk, .int .i64 of, .int .i64 om, .int .i64 af, .int .i64 am, .int .i64 bf, .int .i64 bm] 144)) := (HC2.out.same HX.out).alloc _
      have HRA := Lib.hid (HA.out.ch hw0); have HRO := Lib.hid (HO.out.ch hw0); have HRB := Lib.hid (HB.out.ch hw0)
      have HV2 := Lib.hid (own_ch HV.out ((Ch.refl no wr).alloc (.cells #[.int .i64 rk, .int .i64 of, .int .i64 om, .int .i64 af, .int .i64 am, .int .i64 bf, .int .i64 bm] 144)) (fun _ _ => no_not _))
      have HX2 := Lib.hid (HX.out.alloc (.cells #[.int .i64 rk, .int .i64 of, .int .i64 om, .int .i64 af, .int .i64 am, .int .i64 bf, .int .i64 bm] 144))
      have HG0 := Lib.hid g0; have HG1 := Lib.hid g1; have HG2 := Lib.hid g2; have HG3 := Lib.hid g3; have HG4 := Lib.hid g4
      have hfa := HFR.out.a; have hfo := HFR.out.o; have hfb := HFR.out.b; have hfk := HFR.out.k
      simp only [] at hfa hfo hfb hfk
      have HFA := Lib.hid hfa; have HFO := Lib.hid hfo; have HFB := Lib.hid hfb
      have hfl := Nat.le_trans HFL.out HLN.out
      rw [HFN.out, List.length_append] at hfl
      have HFL2 := Lib.hid hfl
      clear hWW hm g0 g1 g2 g3 g4 hw0 c0 c1 c2 c3 c4 c5 c6 hfa hfo hfb hfl HFL HFR
      rcases hfk with rfl | rfl | rfl | rfl | rfl
      · have hlk := run_get (P := Tryd.prog) (t := 137) intKey Tryd.underlying137 Tryd.underlying3 HM.out 0 false (zeroFn _)
        rw [HG0.out] at hlk
        simp only [Option.getD_some, Bool.false_eq_true, if_false, teller1] at hlk
        have hcb := clash_bd HCN.out hcle hmn
        go_wp2_with fail
        refine (tell1_any ⟨0, of, om, af, am, bf, bm⟩ ba Aa ca a _ HBA2.out HRA.out HFA.out.1 HFA.out.2.1 HFA.out.2.2).mono ?_
        rintro e w3 ⟨A3, c3, rfl, hrw, hch⟩
        have HRW := Lib.hid hrw; have HC4 := Lib.hid hch
        have htl : tellR o a b ⟨0, of, om, af, am, bf, bm⟩ = cutL a af am := rfl
        have hl2 := HFL2.out
        rw [htl] at hl2
        have HTL := Lib.hid htl
        clear hrw hch hlk htl
        have HC5 := Lib.hid (HX2.out.same (HC4.out))
        have hb4 : ((0 : Int) == 4) = false := by decide
        go_wp2_with (at_builtin; refine app_row (fun _ => rfl) rfl _ _ 25 rfl w2.heap.size 9 i0 _ 16 Tryd.underlying25 hi hz0 hz1 hz2 rfl _ _ _ rfl (own_ch HV2.out HC4.out (fun _ _ => no_not _)) A3 c3 (cutL a af am) rfl HRW.out (by unfold maxLen; omega) (by omega) (by have := HX2.out.size; have := HC4.out.size; omega) ?_; intro v' w4 hown hgrow _; have HO4 := Lib.hid hown; have HC6 := Lib.hid (Vw.Ch.grown_new HC5.out hgrow (own_ge HV.out)); have hcell : w4.cell? ⟨wr.heap.size, 0, none⟩ = some (.int .i64 0) := (bCell ((grown_ch hgrow).blk (HC4.out.blk (al1 wr _) (no_not _)) (fun h => by have := own_lt HV.out _ h.symm; omega)) 0).trans rfl; clear hown hgrow hl2)
        go_roundw
        case rel => exact ⟨k + 1, by omega, by go_num, by rw [HCN.out]; first | rfl | go_num, Lib.hid (by rw [HFN.out, HTL.out]; exact own_app HO4.out), HC6⟩
        case measure => simp [intOf]; omega
      · have hlk := run_get (P := Tryd.prog) (t := 137) intKey Tryd.underlying137 Tryd.underlying3 HM.out 1 false (zeroFn _)
        rw [HG1.out] at hlk
        simp only [Option.getD_some, Bool.false_eq_true, if_false, teller1] at hlk
        have hcb := clash_bd HCN.out hcle hmn
        go_wp2_with fail
        refine (tell1_any ⟨1, of, om, af, am, bf, bm⟩ ba Aa ca a _ HBA2.out HRA.out HFA.out.1 HFA.out.2.1 HFA.out.2.2).mono ?_
        rintro e w3 ⟨A3, c3, rfl, hrw, hch⟩
        have HRW := Lib.hid hrw; have HC4 := Lib.hid hch
        have htl : tellR o a b ⟨1, of, om, af, am, bf, bm⟩ = cutL a af am := rfl
        have hl2 := HFL2.out
        rw [htl] at hl2
        have HTL := Lib.hid htl
        clear hrw hch hlk htl
        have HC5 := Lib.hid (HX2.out.same (HC4.out))
        have hb4 : ((1 : Int) == 4) = false := by decide
        go_wp2_with (at_builtin; refine app_row (fun _ => rfl) rfl _ _ 25 rfl w2.heap.size 9 i0 _ 16 Tryd.underlying25 hi hz0 hz1 hz2 rfl _ _ _ rfl (own_ch HV2.out HC4.out (fun _ _ => no_not _)) A3 c3 (cutL a af am) rfl HRW.out (by unfold maxLen; omega) (by omega) (by have := HX2.out.size; have := HC4.out.size; omega) ?_; intro v' w4 hown hgrow _; have HO4 := Lib.hid hown; have HC6 := Lib.hid (Vw.Ch.grown_new HC5.out hgrow (own_ge HV.out)); have hcell : w4.cell? ⟨wr.heap.size, 0, none⟩ = some (.int .i64 1) := (bCell ((grown_ch hgrow).blk (HC4.out.blk (al1 wr _) (no_not _)) (fun h => by have := own_lt HV.out _ h.symm; omega)) 0).trans rfl; clear hown hgrow hl2)
        go_roundw
        case rel => exact ⟨k + 1, by omega, by go_num, by rw [HCN.out]; first | rfl | go_num, Lib.hid (by rw [HFN.out, HTL.out]; exact own_app HO4.out), HC6⟩
        case measure => simp [intOf]; omega
      · have hlk := run_get (P := Tryd.prog) (t := 137) intKey Tryd.underlying137 Tryd.underlying3 HM.out 2 false (zeroFn _)
        rw [HG2.out] at hlk
        simp only [Option.getD_some, Bool.false_eq_true, if_false, teller2] at hlk
        have hcb := clash_bd HCN.out hcle hmn
        go_wp2_with fail
        refine (tell2_any ⟨2, of, om, af, am, bf, bm⟩ bb Ab cb b _ HBB2.out HRB.out HFB.out.1 HFB.out.2.1 HFB.out.2.2).mono ?_
        rintro e w3 ⟨A3, c3, rfl, hrw, hch⟩
        have HRW := Lib.hid hrw; have HC4 := Lib.hid hch
        have htl : tellR o a b ⟨2, of, om, af, am, bf, bm⟩ = cutL b bf bm := rfl
        have hl2 := HFL2.out
        rw [htl] at hl2
        have HTL := Lib.hid htl
        clear hrw hch hlk htl
        have HC5 := Lib.hid (HX2.out.same (HC4.out))
        have hb4 : ((2 : Int) == 4) = false := by decide
        go_wp2_with (at_builtin; refine app_row (fun _ => rfl) rfl _ _ 25 rfl w2.heap.size 9 i0 _ 16 Tryd.underlying25 hi hz0 hz1 hz2 rfl _ _ _ rfl (own_ch HV2.out HC4.out (fun _ _ => no_not _)) A3 c3 (cutL b bf bm) rfl HRW.out (by unfold maxLen; omega) (by omega) (by have := HX2.out.size; have := HC4.out.size; omega) ?_; intro v' w4 hown hgrow _; have HO4 := Lib.hid hown; have HC6 := Lib.hid (Vw.Ch.grown_new HC5.out hgrow (own_ge HV.out)); have hcell : w4.cell? ⟨wr.heap.size, 0, none⟩ = some (.int .i64 2) := (bCell ((grown_ch hgrow).blk (HC4.out.blk (al1 wr _) (no_not _)) (fun h => by have := own_lt HV.out _ h.symm; omega)) 0).trans rfl; clear hown hgrow hl2)
        go_roundw
        case rel => exact ⟨k + 1, by omega, by go_num, by rw [HCN.out]; first | rfl | go_num, Lib.hid (by rw [HFN.out, HTL.out]; exact own_app HO4.out), HC6⟩
        case measure => simp [intOf]; omega
      · have hlk := run_get (P := Tryd.prog) (t := 137) intKey Tryd.underlying137 Tryd.underlying3 HM.out 3 false (zeroFn _)
        rw [HG3.out] at hlk
        simp only [Option.getD_some, Bool.false_eq_true, if_false, teller1] at hlk
        have hcb := clash_bd HCN.out hcle hmn
        go_wp2_with fail
        refine (tell1_any ⟨3, of, om, af, am, bf, bm⟩ ba Aa ca a _ HBA2.out HRA.out HFA.out.1 HFA.out.2.1 HFA.out.2.2).mono ?_
        rintro e w3 ⟨A3, c3, rfl, hrw, hch⟩
        have HRW := Lib.hid hrw; have HC4 := Lib.hid hch
        have htl : tellR o a b ⟨3, of, om, af, am, bf, bm⟩ = cutL a af am := rfl
        have hl2 := HFL2.out
        rw [htl] at hl2
        have HTL := Lib.hid htl
        clear hrw hch hlk htl
        have HC5 := Lib.hid (HX2.out.same (HC4.out))
        have hb4 : ((3 : Int) == 4) = false := by decide
        go_wp2_with (at_builtin; refine app_row (fun _ => rfl) rfl _ _ 25 rfl w2.heap.size 9 i0 _ 16 Tryd.underlying25 hi hz0 hz1 hz2 rfl _ _ _ rfl (own_ch HV2.out HC4.out (fun _ _ => no_not _)) A3 c3 (cutL a af am) rfl HRW.out (by unfold maxLen; omega) (by omega) (by have := HX2.out.size; have := HC4.out.size; omega) ?_; intro v' w4 hown hgrow _; have HO4 := Lib.hid hown; have HC6 := Lib.hid (Vw.Ch.grown_new HC5.out hgrow (own_ge HV.out)); have hcell : w4.cell? ⟨wr.heap.size, 0, none⟩ = some (.int .i64 3) := (bCell ((grown_ch hgrow).blk (HC4.out.blk (al1 wr _) (no_not _)) (fun h => by have := own_lt HV.out _ h.symm; omega)) 0).trans rfl; clear hown hgrow hl2)
        go_roundw
        case rel => exact ⟨k + 1, by omega, by go_num, by rw [HCN.out]; first | rfl | go_num, Lib.hid (by rw [HFN.out, HTL.out]; exact own_app HO4.out), HC6⟩
        case measure => simp [intOf]; omega
      · have hlk := run_get (P := Tryd.prog) (t := 137) intKey Tryd.underlying137 Tryd.underlying3 HM.out 4 false (zeroFn _)
        rw [HG4.out] at hlk
        simp only [Option.getD_some, Bool.false_eq_true, if_false, teller3] at hlk
        have hcb := clash_bd HCN.out hcle hmn
        go_wp2_with fail
        refine (tell3_any ⟨4, of, om, af, am, bf, bm⟩ ba bo bb Aa Ao Ab ca co cb o a b _ ⟨HBA2.out, HRA.out, HF.out.la, HF.out.sa⟩ ⟨HBO2.out, HRO.out, HF.out.lo, HF.out.so⟩ ⟨HBB2.out, HRB.out, HF.out.lb, HF.out.sb⟩ HFA.out HFO.out HFB.out).mono ?_
        rintro e w3 ⟨v3, rfl, ⟨A3, c3, hv3, hrw⟩, hch⟩
        obtain ⟨ts, hts⟩ : ∃ ts, (clashParts o a b ⟨4, of, om, af, am, bf, bm⟩).flatten = ts := ⟨_, rfl⟩
        rw [hts] at hv3 hrw
        subst hv3
        have HRW := Lib.hid hrw; have HC4 := Lib.hid hch
        have htl : tellR o a b ⟨4, of, om, af, am, bf, bm⟩ = ts := hts
        have hl2 := HFL2.out
        rw [htl] at hl2
        have HTL := Lib.hid htl
        clear hrw hch hlk htl hts
        have HC5 := Lib.hid (HX2.out.same (HC4.out))
        go_wp2_with (at_builtin; refine app_row (fun _ => rfl) rfl _ _ 25 rfl w2.heap.size 9 i0 _ 16 Tryd.underlying25 hi hz0 hz1 hz2 rfl _ _ _ rfl (own_ch HV2.out HC4.out (fun _ _ => no_not _)) A3 c3 (ts) rfl HRW.out (by unfold maxLen; omega) (by omega) (by have := HX2.out.size; have := HC4.out.size; omega) ?_; intro v' w4 hown hgrow _; have HO4 := Lib.hid hown; have HC6 := Lib.hid (Vw.Ch.grown_new HC5.out hgrow (own_ge HV.out)); have hcell : w4.cell? ⟨wr.heap.size, 0, none⟩ = some (.int .i64 4) := (bCell ((grown_ch hgrow).blk (HC4.out.blk (al1 wr _) (no_not _)) (fun h => by have := own_lt HV.out _ h.symm; omega)) 0).trans rfl; clear hown hgrow hl2)
        go_roundw
        case rel => exact ⟨k + 1, by omega, by go_num, by rw [HCN.out]; first | rfl | go_num, Lib.hid (by rw [HFN.out, HTL.out]; exact own_app HO4.out), HC6⟩
        case measure => simp [intOf]; omega
    · have hke : k = rs.length := by omega
      have HKE := Lib.hid hke
      clear hke
      go_wp2_with fail
      go_ret2
      have h := HV.out
      rw [List.take_of_length_le (by have := HKE.out; omega)] at h
      exact ⟨_, by rw [List.take_of_length_le (by have := HKE.out; omega)]; rfl, own_less h HC2.out.size, (HC2.out.same HX.out)⟩

end Go.Proofs.YtekeiieefkgopaaDoor.Nh
