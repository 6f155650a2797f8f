/- The document's answer of three texts together. -/
import Derived.Test.YtekeiieefkgopaaXd
import Derived.Laws.Concat
import Derived.Deep.QuietTactic
import Derived.BigQuiet
import Derived.Test.YtekeiieefkgopaaQe
import Derived.Test.YtekeiieefkgopaaQo
import Derived.Test.YtekeiieefkgopaaXa
namespace Go.Proofs.Ytekeiieefkgopaa.Qr
open Go.RowKit Go.Proofs.Ytekeiieefkgopaa.Aa Go.Proofs.Ytekeiieefkgopaa.Vw Go.Proofs.Ytekeiieefkgopaa.Ma Go.Proofs.Ytekeiieefkgopaa.Mb Go.Proofs.Ytekeiieefkgopaa.Mi Go.Proofs.Ytekeiieefkgopaa.Na Go.Proofs.Ytekeiieefkgopaa.No Go.Proofs.Ytekeiieefkgopaa.Np Go.Proofs.Ytekeiieefkgopaa.Nq Go.Proofs.Ytekeiieefkgopaa.Qa
set_option linter.unusedVariables false
set_option linter.unusedSimpArgs false

theorem bl_cons (x y : UInt8) (X Y : List UInt8) : Op.bytesLess (x :: X) (y :: Y) = if x = y then Op.bytesLess X Y else decide (x < y) := by
  simp only [Op.bytesLess]
  by_cases h : x = y
  · subst h; simp [UInt8.lt_irrefl]
  · simp [h]
theorem drop_at (s : ByteArray) (k : Nat) (h : k < s.size) : s.data.toList.drop k = s[k] :: s.data.toList.drop (k + 1) := by
  rw [List.drop_eq_getElem_cons (by simpa using h)]; rfl
theorem drop_end (s : ByteArray) (k : Nat) (h : s.size ≤ k) : s.data.toList.drop k = [] := List.drop_eq_nil_of_le (by simpa using h)

set_option maxRecDepth 100000 in
set_option maxHeartbeats 4000000 in
theorem bless_of (a b : ByteArray) (w : World) (ha : a.size ≤ 9223372036854775806) (hb : b.size ≤ 9223372036854775806) :
    Calls Try.prog 21 #[.string a, .string b] w fun e w' => e = .returned (.bool (Op.bytesLess a.toList b.toList)) ∧ Dr w w' := by
  obtain ⟨r, hr⟩ : ∃ r, Op.bytesLess a.toList b.toList = r := ⟨_, rfl⟩
  rw [hr]
  have h0 : r = Op.bytesLess (a.data.toList.drop 0) (b.data.toList.drop 0) := by rw [← hr, ByteArray.toList_eq, ByteArray.toList_eq]; rfl
  have H0 := Lib.hid h0
  clear hr h0
  go_enter Try.func21, Try.ntmps21
  go_wp2_with fail
  go_loopw [5] (fun i wr => ∃ k : Nat, k ≤ a.size ∧ k ≤ b.size ∧ i = .int .i64 k ∧ Hid (r = Op.bytesLess (a.data.toList.drop k) (b.data.toList.drop k)) ∧ Hid (Dr w wr)) (fun i _ => a.size - (intOf i).toNat)
  case atStart => exact ⟨0, by omega, by omega, rfl, H0, Lib.hid (Dr.refl w)⟩
  case round =>
    clear H0
    obtain ⟨k, hka, hkb, rfl, HR, HD⟩ := hrel
    by_cases h1 : k < a.size
    · by_cases h2 : k < b.size
      · have hr := HR.out
        rw [drop_at a k h1, drop_at b k h2, bl_cons] at hr
        by_cases h3 : a[k] = b[k]
        · have hn : ((a[k].toNat : Int) != (b[k].toNat : Int)) = false := by rw [h3]; simp
          rw [if_pos h3] at hr
          have HR2 := Lib.hid hr
          clear hr h3
          go_wp2_with fail
          go_quiet (fail)
          go_wp2_with fail
          go_roundw
          case rel => exact ⟨k + 1, by omega, by omega, by go_num, HR2, Lib.hid (HD.out.drewN _)⟩
          case measure => simp [intOf]; omega
        · have hn : ((a[k].toNat : Int) != (b[k].toNat : Int)) = true := by
            rw [bne_iff_ne]; intro h; exact h3 (UInt8.toNat_inj.1 (by omega))
          rw [if_neg h3] at hr
          have HR2 : Hid (r = decide (a[k].toNat < b[k].toNat)) := Lib.hid (by rw [hr]; rw [decide_eq_decide, UInt8.lt_iff_toNat_lt])
          clear hr h3
          go_wp2_with fail
          go_quiet (fail)
          go_wp2_with fail
          go_quiet (fail)
          go_wp2_with fail
          go_ret
          exact ⟨by rw [HR2.out]; rfl, (HD.out.drewN _).drewN _⟩
      · have hr := HR.out
        rw [drop_at a k h1, drop_end b k (by omega)] at hr
        have hlt : ¬ (a.size : Int) < (b.size : Int) := by omega
        have HR2 := Lib.hid hr
        clear hr
        go_wp2_with fail
        go_ret
        exact ⟨by rw [HR2.out]; rfl, HD.out⟩
    · have hr := HR.out
      rw [drop_end a k (by omega)] at hr
      by_cases h2 : k < b.size
      · rw [drop_at b k h2] at hr
        have hlt : (a.size : Int) < (b.size : Int) := by omega
        have HR2 := Lib.hid hr
        clear hr
        go_wp2_with fail
        go_ret
        exact ⟨by rw [HR2.out]; rfl, HD.out⟩
      · rw [drop_end b k (by omega)] at hr
        have hlt : ¬ (a.size : Int) < (b.size : Int) := by omega
        have HR2 := Lib.hid hr
        clear hr
        go_wp2_with fail
        go_ret
        exact ⟨by rw [HR2.out]; rfl, HD.out⟩

set_option maxRecDepth 100000 in
set_option maxHeartbeats 4000000 in
theorem refJoin2_of (A : Option Addr) (c : Nat) (xs : List ByteArray) (w : World) (hx : El.str.Row w A c xs) (hs : (joinS xs).size ≤ 140737488355328) :
    Calls Try.prog 32 #[.slice A xs.length c] w fun e w' => e = .returned (.string (joinS xs)) ∧ w = w' := by
  have hl := hx.len
  have HX := Lib.hid hx
  clear hx
  go_enter Try.func32, Try.ntmps32
  go_wp2_with fail
  go_loopw [3, 4] (fun s i wr => ∃ (k : Nat) (t : ByteArray), k ≤ xs.length ∧ i = .int .i64 k ∧ s = .string t ∧ Hid (t = joinS (xs.take k)) ∧ w = wr) (fun s i _ => xs.length - (intOf i).toNat)
  case atStart => exact ⟨0, ⟨#[]⟩, by omega, rfl, rfl, Lib.hid rfl, rfl⟩
  case round =>
    obtain ⟨k, t, hk, rfl, rfl, HT, rfl⟩ := hrel
    by_cases hlt : k < xs.length
    · obtain ⟨a, rfl, hca⟩ := HX.out.flat_at k hlt
      have hle := joinS_le xs (k + 1)
      rw [joinS_next xs k hlt, ByteArray.size_append, ← HT.out] at hle
      have hadd := run_string_add_sum (P := Try.prog) w t xs[k] (by omega)
      have HN : Hid (t ++ xs[k] = joinS (xs.take (k + 1))) := Lib.hid (by rw [joinS_next xs k hlt, ← HT.out])
      obtain ⟨t2, ht2⟩ : ∃ t2, t ++ xs[k] = t2 := ⟨_, rfl⟩
      rw [ht2] at hadd HN
      clear hle ht2
      go_wp2_with fail
      go_roundw
      case rel => exact ⟨k + 1, t2, by omega, by go_num, rfl, HN, trivial⟩
      case measure => simp [intOf]; omega
    · have HJ : Hid (t = joinS xs) := Lib.hid (by rw [HT.out, List.take_of_length_le (by omega)])
      go_wp2_with fail
      go_ret
      exact ⟨by rw [← HJ.out]; rfl, rfl⟩
end Go.Proofs.Ytekeiieefkgopaa.Qr

namespace Go.Proofs.Ytekeiieefkgopaa.Qs
open Go.RowKit Go.Proofs.Ytekeiieefkgopaa.Aa Go.Proofs.Ytekeiieefkgopaa.Vw Go.Proofs.Ytekeiieefkgopaa.Ma Go.Proofs.Ytekeiieefkgopaa.Mr Go.Proofs.Ytekeiieefkgopaa.Mb Go.Proofs.Ytekeiieefkgopaa.Mc Go.Proofs.Ytekeiieefkgopaa.Na Go.Proofs.Ytekeiieefkgopaa.Ne Go.Proofs.Ytekeiieefkgopaa.Nf Go.Proofs.Ytekeiieefkgopaa.Nh Go.Proofs.Ytekeiieefkgopaa.No Go.Proofs.Ytekeiieefkgopaa.Np Go.Proofs.Ytekeiieefkgopaa.Nq Go.Proofs.Ytekeiieefkgopaa.Pd Go.Proofs.Ytekeiieefkgopaa.Pe Go.Proofs.Ytekeiieefkgopaa.Qa Go.Proofs.Ytekeiieefkgopaa.Qe Go.Proofs.Ytekeiieefkgopaa.Qr Go.Proofs.Ytekeiieefkgopaa.Qo
set_option linter.unusedVariables false
set_option linter.unusedSimpArgs false

set_option maxRecDepth 100000 in
set_option maxHeartbeats 4000000 in
theorem refText_of (o a b : ByteArray) (w : World) (ho : o.size ≤ 1000) (ha : a.size ≤ 1000) (hb : b.size ≤ 1000) :
    Calls Try.prog 26 #[.string o, .string a, .string b] w (TextP (textOf o a b) w) := by
  have lo := split_len o.size o; have la := split_len a.size a; have lb := split_len b.size b
  have so := split_sz o.size o; have sa := split_sz a.size a; have sb := split_sz b.size b
  have hf : Fit (splitS o) (splitS a) (splitS b) := fit_of _ _ _ (by unfold splitS; omega) (by unfold splitS; omega) (by unfold splitS; omega)
    (fun x hx => by have := so x hx; omega) (fun x hx => by have := sa x hx; omega) (fun x hx => by have := sb x hx; omega)
  have hts := text_size _ _ _ hf (fun x hx => by have := so x hx; omega) (fun x hx => by have := sa x hx; omega) (fun x hx => by have := sb x hx; omega)
  have HF := Lib.hid hf; have HLN := Lib.hid hts
  have HS1 : Hid (∀ x ∈ splitS o, x.size ≤ 9223372036854775806) := fun x hx => by have := so x hx; omega
  have HS2 : Hid (∀ x ∈ splitS a, x.size ≤ 9223372036854775806) := fun x hx => by have := sa x hx; omega
  have HS3 : Hid (∀ x ∈ splitS b, x.size ≤ 9223372036854775806) := fun x hx => by have := sb x hx; omega
  have HL : Hid ((splitS o).length ≤ 1000 ∧ (splitS a).length ≤ 1000 ∧ (splitS b).length ≤ 1000) := by
    refine Lib.hid ⟨?_, ?_, ?_⟩ <;> (unfold splitS; omega)
  clear hf hts lo la lb so sa sb
  by_cases h1 : a = b
  · have HR : Hid (textOf o a b = (a, 0)) := Lib.hid (by unfold textOf; rw [if_pos (.inl h1)])
    have e1 := beq_yes h1
    clear h1
    go_enter Try.func26, Try.ntmps26
    go_wp2_with fail
    go_ret2
    rw [HR.out]
    exact ⟨rfl, Ch.refl _ _⟩
  have e1 := beq_no h1
  by_cases h2 : b = o
  · have HR : Hid (textOf o a b = (a, 0)) := Lib.hid (by unfold textOf; rw [if_pos (.inr h2)])
    have e2 := beq_yes h2
    clear h1 h2
    go_enter Try.func26, Try.ntmps26
    go_wp2_with fail
    go_ret2
    rw [HR.out]
    exact ⟨rfl, Ch.refl _ _⟩
  have e2 := beq_no h2
  by_cases h3 : a = o
  · have HR : Hid (textOf o a b = (b, 0)) := Lib.hid (by unfold textOf; rw [if_neg (by rintro (h | h); exact h1 h; exact h2 h), if_pos h3])
    have e3 := beq_yes h3
    clear h1 h2 h3
    go_enter Try.func26, Try.ntmps26
    go_wp2_with fail
    go_ret2
    rw [HR.out]
    exact ⟨rfl, Ch.refl _ _⟩
  have e3 := beq_no h3
  have HR : Hid (textOf o a b = if binB o || binB a || binB b then (maxS a b, 1) else (joinS (mergeL (splitS o) (splitS a) (splitS b)), clashN (regionsOf (splitS o) (splitS a) (splitS b)))) :=
    Lib.hid (by unfold textOf; rw [if_neg (by rintro (h | h); exact h1 h; exact h2 h), if_neg h3])
  clear h1 h2 h3
  cases hbo : binB o with
  | true =>
    have Bo := Lib.hid hbo
    clear hbo
    go_enter Try.func26, Try.ntmps26
    go_wp2_with fail
    refine (refBinary_of o _ (by omega)).mono ?_
    rintro e w' ⟨rfl, hw⟩
    rw [← hw]
    clear hw w'
    rw [Bo.out]
    go_wp2_with fail
    refine (bless_of a b _ (by omega) (by omega)).mono ?_
    rintro e w5 ⟨rfl, hd⟩
    have HD := Lib.hid (Dr.ch hd no)
    clear hd
    cases hl : Op.bytesLess a.toList b.toList with
    | true =>
      have HM : Hid (maxS a b = b) := Lib.hid (by unfold maxS; rw [hl]; rfl)
      clear hl
      go_wp2_with fail
      go_ret2
      rw [HR.out, if_pos (by rw [Bo.out]; simp), HM.out]
      exact ⟨rfl, HD.out⟩
    | false =>
      have HM : Hid (maxS a b = a) := Lib.hid (by unfold maxS; rw [hl]; rfl)
      clear hl
      go_wp2_with fail
      go_ret2
      rw [HR.out, if_pos (by rw [Bo.out]; simp), HM.out]
      exact ⟨rfl, HD.out⟩
  | false =>
    have Bo := Lib.hid hbo
    clear hbo
    cases hba : binB a with
    | true =>
      have Ba := Lib.hid hba
      clear hba
      go_enter Try.func26, Try.ntmps26
      go_wp2_with fail
      refine (refBinary_of o _ (by omega)).mono ?_
      rintro e w' ⟨rfl, hw⟩
      rw [← hw]
      clear hw w'
      rw [Bo.out]
      go_wp2_with fail
      refine (refBinary_of a _ (by omega)).mono ?_
      rintro e w' ⟨rfl, hw⟩
      rw [← hw]
      clear hw w'
      rw [Ba.out]
      go_wp2_with fail
      refine (bless_of a b _ (by omega) (by omega)).mono ?_
      rintro e w5 ⟨rfl, hd⟩
      have HD := Lib.hid (Dr.ch hd no)
      clear hd
      cases hl : Op.bytesLess a.toList b.toList with
      | true =>
        have HM : Hid (maxS a b = b) := Lib.hid (by unfold maxS; rw [hl]; rfl)
        clear hl
        go_wp2_with fail
        go_ret2
        rw [HR.out, if_pos (by rw [Ba.out]; simp), HM.out]
        exact ⟨rfl, HD.out⟩
      | false =>
        have HM : Hid (maxS a b = a) := Lib.hid (by unfold maxS; rw [hl]; rfl)
        clear hl
        go_wp2_with fail
        go_ret2
        rw [HR.out, if_pos (by rw [Ba.out]; simp), HM.out]
        exact ⟨rfl, HD.out⟩
    | false =>
      have Ba := Lib.hid hba
      clear hba
      cases hbb : binB b with
      | true =>
        have Bb := Lib.hid hbb
        clear hbb
        go_enter Try.func26, Try.ntmps26
        go_wp2_with fail
        refine (refBinary_of o _ (by omega)).mono ?_
        rintro e w' ⟨rfl, hw⟩
        rw [← hw]
        clear hw w'
        rw [Bo.out]
        go_wp2_with fail
        refine (refBinary_of a _ (by omega)).mono ?_
        rintro e w' ⟨rfl, hw⟩
        rw [← hw]
        clear hw w'
        rw [Ba.out]
        go_wp2_with fail
        refine (refBinary_of b _ (by omega)).mono ?_
        rintro e w' ⟨rfl, hw⟩
        rw [← hw]
        clear hw w'
        rw [Bb.out]
        go_wp2_with fail
        refine (bless_of a b _ (by omega) (by omega)).mono ?_
        rintro e w5 ⟨rfl, hd⟩
        have HD := Lib.hid (Dr.ch hd no)
        clear hd
        cases hl : Op.bytesLess a.toList b.toList with
        | true =>
          have HM : Hid (maxS a b = b) := Lib.hid (by unfold maxS; rw [hl]; rfl)
          clear hl
          go_wp2_with fail
          go_ret2
          rw [HR.out, if_pos (by rw [Bb.out]; simp), HM.out]
          exact ⟨rfl, HD.out⟩
        | false =>
          have HM : Hid (maxS a b = a) := Lib.hid (by unfold maxS; rw [hl]; rfl)
          clear hl
          go_wp2_with fail
          go_ret2
          rw [HR.out, if_pos (by rw [Bb.out]; simp), HM.out]
          exact ⟨rfl, HD.out⟩
      | false =>
        have Bb := Lib.hid hbb
        clear hbb
        go_enter Try.func26, Try.ntmps26
        go_wp2_with fail
        refine (refBinary_of o _ (by omega)).mono ?_
        rintro e w' ⟨rfl, hw⟩
        rw [← hw]
        clear hw w'
        rw [Bo.out]
        go_wp2_with fail
        refine (refBinary_of a _ (by omega)).mono ?_
        rintro e w' ⟨rfl, hw⟩
        rw [← hw]
        clear hw w'
        rw [Ba.out]
        go_wp2_with fail
        refine (refBinary_of b _ (by omega)).mono ?_
        rintro e w' ⟨rfl, hw⟩
        rw [← hw]
        clear hw w'
        rw [Bb.out]
        go_wp2_with fail
        refine (refSplit_of o _ (by omega)).mono ?_
        rintro e w1 ⟨v1, rfl, ho1, hc1⟩
        have HO1 := Lib.hid ho1; have HC1 := Lib.hid hc1
        clear ho1 hc1
        go_wp2_with fail
        refine (refSplit_of a _ (by omega)).mono ?_
        rintro e w2 ⟨v2, rfl, ho2, hc2⟩
        have HO2 := Lib.hid ho2; have HC2 := Lib.hid hc2
        clear ho2 hc2
        go_wp2_with fail
        refine (refSplit_of b _ (by omega)).mono ?_
        rintro e w3 ⟨v3, rfl, ho3, hc3⟩
        have HC3 := Lib.hid hc3
        obtain ⟨A3, c3, rfl, hr3⟩ := SL.of_own ho3
        obtain ⟨A2, c2, rfl, hr2⟩ := SL.of_own HO2.out
        obtain ⟨A1, c1, rfl, hr1⟩ := SL.of_own HO1.out
        have HR1 := Lib.hid hr1; have HR2 := Lib.hid hr2; have HR3 := Lib.hid hr3
        clear ho3 hc3 hr1 hr2 hr3
        go_wp2_with fail
        refine (refLines_of A1 A2 A3 c1 c2 c3 (splitS o) (splitS a) (splitS b) _ (HR1.out.ch (HC2.out.same HC3.out)) (HR2.out.ch HC3.out) HR3.out HL.out.1 HL.out.2.1 HL.out.2.2 HS1.out HS2.out HS3.out HF.out).mono ?_
        rintro e w4 ⟨v4, rfl, ho4, hc4⟩
        obtain ⟨A4, c4, rfl, hr4⟩ := SL.of_own ho4
        have HR4 := Lib.hid hr4; have HC4 := Lib.hid hc4
        clear ho4 hc4 hr4
        obtain ⟨ML, hML⟩ : ∃ ML, mergeL (splitS o) (splitS a) (splitS b) = ML := ⟨_, rfl⟩
        have HML := Lib.hid hML
        rw [hML] at HR4 HLN ⊢
        clear hML
        go_wp2_with fail
        refine (refJoin2_of A4 c4 ML _ HR4.out HLN.out).mono ?_
        rintro e w5 ⟨rfl, hw5⟩
        rw [← hw5]
        clear hw5 w5
        go_wp2_with fail
        go_ret2
        rw [HR.out, if_neg (by rw [Bo.out, Ba.out, Bb.out]; simp), HML.out]
        exact ⟨rfl, ((HC1.out.same HC2.out).same HC3.out).same HC4.out⟩

end Go.Proofs.Ytekeiieefkgopaa.Qs
