/- MergeKeeps. -/
import Derived.Test.YtpmfojnccfnleaaPe
import Derived.Test.YtpmfojnccfnleaaPw
namespace Go.Proofs.Ytpmfojnccfnleaa.Pf
open Go.RowKit Go.Proofs.Ytpmfojnccfnleaa.Aa Go.Proofs.Ytpmfojnccfnleaa.Vw Go.Proofs.Ytpmfojnccfnleaa.Ma Go.Proofs.Ytpmfojnccfnleaa.Mb Go.Proofs.Ytpmfojnccfnleaa.Mc Go.Proofs.Ytpmfojnccfnleaa.Mg Go.Proofs.Ytpmfojnccfnleaa.Na Go.Proofs.Ytpmfojnccfnleaa.Nb Go.Proofs.Ytpmfojnccfnleaa.Ne Go.Proofs.Ytpmfojnccfnleaa.Nf Go.Proofs.Ytpmfojnccfnleaa.Ng Go.Proofs.Ytpmfojnccfnleaa.Nh Go.Proofs.Ytpmfojnccfnleaa.No Go.Proofs.Ytpmfojnccfnleaa.Np Go.Proofs.Ytpmfojnccfnleaa.Nq Go.Proofs.Ytpmfojnccfnleaa.Pd Go.Proofs.Ytpmfojnccfnleaa.Pe Go.Proofs.Ytpmfojnccfnleaa.Pw
set_option linter.unusedVariables false
set_option linter.unusedSimpArgs false

theorem cut_len {xs : List ByteArray} {f m : Int} (h : 0 ≤ f ∧ 0 ≤ m ∧ f + m ≤ xs.length) : ((cutL xs f m).length : Int) = m := by
  rw [cutL_len xs f m h.1 h.2.1 h.2.2]; omega
theorem tell2 {o a b : List ByteArray} {of om af am bf bm : Int} (h : FitR o a b ⟨2, of, om, af, am, bf, bm⟩) : ((tellR o a b ⟨2, of, om, af, am, bf, bm⟩).length : Int) = bm := cut_len h.b
theorem tell0 {o a b : List ByteArray} {k of om af am bf bm : Int} (h : FitR o a b ⟨k, of, om, af, am, bf, bm⟩) (h2 : k ≠ 2) (h4 : k ≠ 4) : ((tellR o a b ⟨k, of, om, af, am, bf, bm⟩).length : Int) = am := by
  unfold tellR; rw [if_neg h2, if_neg h4]; exact cut_len h.a
theorem tell4 {o a b : List ByteArray} {of om af am bf bm : Int} (h : FitR o a b ⟨4, of, om, af, am, bf, bm⟩) : ((tellR o a b ⟨4, of, om, af, am, bf, bm⟩).length : Int) = om + am + bm + 4 := by
  have h1 := cut_len h.a; have h2 := cut_len h.b; have h3 := cut_len h.o
  simp only [] at h1 h2 h3
  unfold tellR
  rw [if_neg (show ¬ (4 : Int) = 2 by decide), if_pos rfl]
  simp only [clashParts, List.flatten_cons, List.flatten_nil, List.length_append, List.length_map, List.length_cons, List.length_nil]
  omega
theorem last4 (o a b : List ByteArray) (of om af am bf bm : Int) : ∃ l, tellR o a b ⟨4, of, om, af, am, bf, bm⟩ = l ++ [theirs] := by
  unfold tellR
  rw [if_neg (show ¬ (4 : Int) = 2 by decide), if_pos rfl]
  exact ⟨_, by simp only [clashParts, List.flatten_cons, List.flatten_nil, List.append_nil, ← List.append_assoc]; rfl⟩
theorem last_at {X pre l post : List ByteArray} {t : ByteArray} (h : X = pre ++ (l ++ [t]) ++ post) (n : Nat) (hn : n + 1 = (pre ++ (l ++ [t])).length) : X[n]? = some t := by
  subst h
  rw [List.getElem?_append_left (by omega), ← List.append_assoc, List.getElem?_append_right (by simp at hn ⊢; omega)]
  simp only [List.length_append, List.length_singleton] at hn ⊢
  rw [show n - (pre.length + l.length) = 0 from by omega]
  rfl
theorem fm_split {α β : Type} (f : α → List β) (l : List α) (k : Nat) : l.flatMap f = (l.take k).flatMap f ++ (l.drop k).flatMap f := by
  conv => lhs; rw [← List.take_append_drop k l, List.flatMap_append]

def True1 (w : World) (e : Ending) (w' : World) : Prop := e = .returned (.bool true) ∧ Ch no w w'

set_option maxRecDepth 100000 in
set_option maxHeartbeats 8000000 in
theorem keeps_of (Ao Aa Ab : Option Addr) (co ca cb : Nat) (o a b : List ByteArray) (w : World) (ho : El.str.Row w Ao co o) (ha : El.str.Row w Aa ca a) (hb : El.str.Row w Ab cb b)
    (so : ∀ x ∈ o, x.size ≤ 140737488355328) (sa : ∀ x ∈ a, x.size ≤ 140737488355328) (sb : ∀ x ∈ b, x.size ≤ 140737488355328) :
    Calls Try.prog 11 #[.slice Ao o.length co, .slice Aa a.length ca, .slice Ab b.length cb] w (True1 w) := by
  have HO := Lib.hid ho; have HA := Lib.hid ha; have HB := Lib.hid hb
  have HSO := Lib.hid so; have HSA := Lib.hid sa; have HSB := Lib.hid sb
  clear ho ha hb so sa sb
  by_cases h : o.length ≤ 20 ∧ a.length ≤ 20 ∧ b.length ≤ 20
  · obtain ⟨lo, la, lb⟩ := h
    have HF := Lib.hid (fit_of o a b (by omega) (by omega) (by omega) (fun x hx => by have := HSO.out x hx; omega) (fun x hx => by have := HSA.out x hx; omega) (fun x hx => by have := HSB.out x hx; omega))
    have HLN := Lib.hid HF.out.len; have HMN := Lib.hid HF.out.many; have HRS := Lib.hid HF.out.rs
    obtain ⟨rs, hrs⟩ : ∃ rs, regionsOf o a b = rs := ⟨_, rfl⟩
    rw [hrs] at HLN HMN HRS
    have HR := Lib.hid hrs
    have hmn := HMN.out; have hln := HLN.out
    clear hrs
    have l1 : ¬ (20 : Int) < (o.length : Int) := by omega
    have l2 : ¬ (20 : Int) < (a.length : Int) := by omega
    have l3 : ¬ (20 : Int) < (b.length : Int) := by omega
    go_enter Try.func11, Try.ntmps11
    go_wp2_with fail
    refine (awake_of w).mono ?_
    rintro e w1 ⟨rfl, hc1⟩
    have HC1 := Lib.hid hc1
    clear hc1
    go_wp2_with fail
    refine (lines_any Ao Aa Ab co ca cb o a b _ (HO.out.ch HC1.out) (HA.out.ch HC1.out) (HB.out.ch HC1.out) HF.out).mono ?_
    rintro e w2 ⟨vx, rfl, hx, hc2⟩
    rw [HR.out] at hx ⊢
    have HC2 := Lib.hid (HC1.out.same hc2)
    obtain ⟨Ax, cx, rfl, hxr⟩ := SL.of_own hx
    have HX := Lib.hid hxr
    clear hx hc2 hxr
    obtain ⟨X, hX⟩ : ∃ X, rs.flatMap (tellR o a b) = X := ⟨_, rfl⟩
    have HXE := Lib.hid hX
    rw [hX] at HX hln ⊢
    clear hX
    go_wp2_with fail
    refine (regions_any Ao Aa Ab co ca cb o a b _ (HO.out.ch HC2.out) (HA.out.ch HC2.out) (HB.out.ch HC2.out) (by omega) (by omega) (by omega) HF.out.sl HF.out.sr HF.out.good HF.out.fin).mono ?_
    rintro e w3 ⟨v, rfl, hown, hc3⟩
    rw [HR.out] at hown
    have HW := Lib.hid hown; have HC3 := Lib.hid (HC2.out.same hc3); have HX3 := Lib.hid (HX.out.ch hc3)
    obtain ⟨Av, cv, rfl⟩ := own_shape hown
    clear hown hc3
    have hxl : X.length ≤ cx := HX3.out.le
    have h41 : ((4 : Int) == 4) = true := by decide
    go_wp2_with fail
    go_loopw [10, 11, 13] (fun v n i wr => ∃ k : Nat, k ≤ rs.length ∧ i = .int .i64 k ∧ v = .int .i64 (((rs.take k).flatMap (tellR o a b)).length : Nat) ∧ n = .int .i64 (clashN (rs.take k) : Nat) ∧ Hid (Ch no w3 wr)) (fun _ _ i _ => rs.length - (intOf i).toNat)
    case atStart => exact ⟨0, by omega, rfl, rfl, rfl, Lib.hid (Ch.refl _ _)⟩
    case round =>
      obtain ⟨k, hk, rfl, rfl, rfl, HY⟩ := hrel
      have hfl := fm_len (tellR o a b) rs k
      rw [HXE.out] at hfl
      have hcle := clash_le rs k
      by_cases hlt : k < rs.length
      · have hne : rs ≠ [] := by intro h; subst h; simp at hlt
        obtain ⟨g, cap, hv, hgB, hcells⟩ := OwnR.at_ HW.out hne
        cases hv
        have hcl := hcells k hlt
        have HFR := Lib.hid (HRS.out rs[k] (List.getElem_mem hlt))
        have HCN := Lib.hid (clash_next rs k hlt)
        have hfn := fm_next (tellR o a b) rs k hlt
        have hfs := fm_split (tellR o a b) rs (k + 1)
        rw [hfn, HXE.out] at hfs
        have hfl2 := congrArg List.length hfs
        have hfn2 := congrArg List.length hfn
        rw [List.length_append] at hfl2 hfn2
        rw [List.length_append] at hfl2
        obtain ⟨r, hr⟩ : ∃ r, rs[k] = r := ⟨_, rfl⟩
        rw [hr] at hcl HFR HCN hfs hfl2 hfn2
        obtain ⟨pre, hpre⟩ : ∃ pre, (rs.take k).flatMap (tellR o a b) = pre := ⟨_, rfl⟩
        obtain ⟨post, hpost⟩ : ∃ post, (rs.drop (k + 1)).flatMap (tellR o a b) = post := ⟨_, rfl⟩
        obtain ⟨nx, hnx⟩ : ∃ nx, ((rs.take (k + 1)).flatMap (tellR o a b)).length = nx := ⟨_, rfl⟩
        rw [hpre, hpost] at hfs hfl2
        rw [hpre, hnx] at hfn2
        rw [hpre] at hfl ⊢
        have HNX := Lib.hid hnx; have HFS := Lib.hid hfs
        clear hr hcells hne hfn hpre hpost hnx hfs
        obtain ⟨rk, of, om, af, am, bf, bm⟩ := r
        have c0 : wr.cell? ⟨g, k * 7, none⟩ = some (.int .i64 rk) := cell_ch HY.out ((hcl 0 (by omega)).trans rfl)
        have c1 := cell_ch HY.out ((hcl 1 (by omega)).trans rfl)
        have c2 := cell_ch HY.out ((hcl 2 (by omega)).trans rfl)
        have c3 := cell_ch HY.out ((hcl 3 (by omega)).trans rfl)
        have c4 := cell_ch HY.out ((hcl 4 (by omega)).trans rfl)
        have c5 := cell_ch HY.out ((hcl 5 (by omega)).trans rfl)
        have c6 := cell_ch HY.out ((hcl 6 (by omega)).trans rfl)
        clear hcl
        have hfa := HFR.out.a; have hfo := HFR.out.o; have hfb := HFR.out.b; have hfk := HFR.out.k
        simp only [] at hfa hfo hfb hfk
        have HY2 := Lib.hid (HY.out.alloc (.cells #[.int .i64 rk, .int .i64 of, .int .i64 om, .int .i64 af, .int .i64 am, .int .i64 bf, .int .i64 bm] 50))
        have HX4 := Lib.hid (HX3.out.ch HY2.out)
        rcases hfk with rfl | rfl | rfl | rfl | rfl
        · have htl := tell0 HFR.out (by decide) (by decide)
          have HSUM : Hid ((pre.length : Int) + am = nx) := Lib.hid (by omega)
          have hq1 : (pre.length : Int) + am ≤ X.length := by omega
          have hb4 : ((0 : Int) == 4) = false := by decide
          have hb2 : ((0 : Int) == 2) = false := by decide
          clear htl hfl2 hfn2
          go_wp2_with fail
          go_roundw
          case rel => exact ⟨k + 1, by omega, by go_num, by rw [HSUM.out, ← HNX.out], by rw [HCN.out]; first | rfl | go_num, HY2⟩
          case measure => simp [intOf]; omega
        · have htl := tell0 HFR.out (by decide) (by decide)
          have HSUM : Hid ((pre.length : Int) + am = nx) := Lib.hid (by omega)
          have hq1 : (pre.length : Int) + am ≤ X.length := by omega
          have hb4 : ((1 : Int) == 4) = false := by decide
          have hb2 : ((1 : Int) == 2) = false := by decide
          clear htl hfl2 hfn2
          go_wp2_with fail
          go_roundw
          case rel => exact ⟨k + 1, by omega, by go_num, by rw [HSUM.out, ← HNX.out], by rw [HCN.out]; first | rfl | go_num, HY2⟩
          case measure => simp [intOf]; omega
        · have htl := tell2 HFR.out
          have HSUM : Hid ((pre.length : Int) + bm = nx) := Lib.hid (by omega)
          have hq1 : (pre.length : Int) + bm ≤ X.length := by omega
          have hb4 : ((2 : Int) == 4) = false := by decide
          have hb2 : ((2 : Int) == 2) = true := by decide
          clear htl hfl2 hfn2
          go_wp2_with fail
          go_roundw
          case rel => exact ⟨k + 1, by omega, by go_num, by rw [HSUM.out, ← HNX.out], by rw [HCN.out]; first | rfl | go_num, HY2⟩
          case measure => simp [intOf]; omega
        · have htl := tell0 HFR.out (by decide) (by decide)
          have HSUM : Hid ((pre.length : Int) + am = nx) := Lib.hid (by omega)
          have hq1 : (pre.length : Int) + am ≤ X.length := by omega
          have hb4 : ((3 : Int) == 4) = false := by decide
          have hb2 : ((3 : Int) == 2) = false := by decide
          clear htl hfl2 hfn2
          go_wp2_with fail
          go_roundw
          case rel => exact ⟨k + 1, by omega, by go_num, by rw [HSUM.out, ← HNX.out], by rw [HCN.out]; first | rfl | go_num, HY2⟩
          case measure => simp [intOf]; omega
        · have htl := tell4 HFR.out
          have HSUM : Hid ((pre.length : Int) + om + am + bm + 4 = nx) := Lib.hid (by omega)
          have hq1 : (pre.length : Int) + om + am + bm + 4 ≤ X.length := by omega
          have hnx1 : (((pre.length : Int) + om + am + bm + 4).toNat - 1) + 1 = nx := by omega
          have hnl : (((pre.length : Int) + om + am + bm + 4).toNat - 1) < X.length := by omega
          obtain ⟨l4, hl4⟩ := last4 o a b of om af am bf bm
          have hfs := HFS.out
          rw [hl4] at hfs hfn2
          have hth := last_at hfs (((pre.length : Int) + om + am + bm + 4).toNat - 1) (by rw [List.length_append]; omega)
          obtain ⟨ad, rfl, hcx⟩ := HX4.out.flat_at (((pre.length : Int) + om + am + bm + 4).toNat - 1) hnl
          rw [(List.getElem?_eq_some_iff.1 hth).2] at hcx
          have hct : (theirs.toList == [62, 62, 62, 62, 62, 62, 62, 10]) = true := by decide +kernel
          have hq3 : (0 : Int) ≤ (pre.length : Int) + om + am + bm + 4 - 1 := by omega
          have hq4 : (pre.length : Int) + om + am + bm + 4 - 1 < (X.length : Int) := by omega
          have hcb : (clashN (rs.take k) : Int) ≤ 1000000 := by omega
          clear hth hfs hl4 hnx1 hnl
          clear htl hfl2 hfn2
          go_wp2_with fail
          go_roundw
          case rel => exact ⟨k + 1, by omega, by go_num, by rw [HSUM.out, ← HNX.out], by rw [HCN.out]; first | rfl | go_num, HY2⟩
          case measure => simp [intOf]; omega
      · have hke : k = rs.length := by omega
        subst hke
        rw [List.take_of_length_le (Nat.le_refl _), HXE.out]
        have hb1 : ((X.length : Int) == (X.length : Int)) = true := by rw [beq_iff_eq]
        have hb2 : ((clashN rs : Int) == (clashN rs : Int)) = true := by rw [beq_iff_eq]
        go_wp2_with fail
        go_ret
        exact ⟨rfl, HC3.out.same HY.out⟩
  · have h3 : 20 < o.length ∨ (¬ 20 < o.length ∧ 20 < a.length) ∨ (¬ 20 < o.length ∧ ¬ 20 < a.length ∧ 20 < b.length) := by omega
    clear h
    have hoc := HO.out.len; have hac := HA.out.len; have hbc := HB.out.len
    rcases h3 with l1 | ⟨l1, l2⟩ | ⟨l1, l2, l3⟩
    · have m1 : (20 : Int) < (o.length : Int) := by omega
      clear l1
      go_enter Try.func11, Try.ntmps11
      go_wp2_with fail
      refine (awake_of w).mono ?_
      rintro e w1 ⟨rfl, hc1⟩
      have HC1 := Lib.hid hc1
      clear hc1
      go_wp2_with fail
      go_ret
      exact ⟨rfl, HC1.out⟩
    · have m1 : ¬ (20 : Int) < (o.length : Int) := by omega
      have m2 : (20 : Int) < (a.length : Int) := by omega
      clear l1 l2
      go_enter Try.func11, Try.ntmps11
      go_wp2_with fail
      refine (awake_of w).mono ?_
      rintro e w1 ⟨rfl, hc1⟩
      have HC1 := Lib.hid hc1
      clear hc1
      go_wp2_with fail
      go_ret
      exact ⟨rfl, HC1.out⟩
    · have m1 : ¬ (20 : Int) < (o.length : Int) := by omega
      have m2 : ¬ (20 : Int) < (a.length : Int) := by omega
      have m3 : (20 : Int) < (b.length : Int) := by omega
      clear l1 l2 l3
      go_enter Try.func11, Try.ntmps11
      go_wp2_with fail
      refine (awake_of w).mono ?_
      rintro e w1 ⟨rfl, hc1⟩
      have HC1 := Lib.hid hc1
      clear hc1
      go_wp2_with fail
      go_ret
      exact ⟨rfl, HC1.out⟩

end Go.Proofs.Ytpmfojnccfnleaa.Pf
