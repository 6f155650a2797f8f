/- MergeSides, MergeOne. -/
import Derived.Test.YtpmfojnccfnleaaPh
import Derived.Test.YtpmfojnccfnleaaPf
namespace Go.Proofs.Ytpmfojnccfnleaa.Pi
open Go.RowKit Go.Proofs.Ytpmfojnccfnleaa.Aa Go.Proofs.Ytpmfojnccfnleaa.Vw Go.Proofs.Ytpmfojnccfnleaa.Ma Go.Proofs.Ytpmfojnccfnleaa.Mb Go.Proofs.Ytpmfojnccfnleaa.Mc Go.Proofs.Ytpmfojnccfnleaa.Nf Go.Proofs.Ytpmfojnccfnleaa.Nh Go.Proofs.Ytpmfojnccfnleaa.No Go.Proofs.Ytpmfojnccfnleaa.Np Go.Proofs.Ytpmfojnccfnleaa.Nq Go.Proofs.Ytpmfojnccfnleaa.Pd Go.Proofs.Ytpmfojnccfnleaa.Pe Go.Proofs.Ytpmfojnccfnleaa.Pf Go.Proofs.Ytpmfojnccfnleaa.Pg Go.Proofs.Ytpmfojnccfnleaa.Ph
set_option linter.unusedVariables false
set_option linter.unusedSimpArgs false

set_option maxRecDepth 100000 in
set_option maxHeartbeats 8000000 in
theorem sides_of (o a b : ByteArray) (w : World) (ho : o.size ≤ 140737488355328) (ha : a.size ≤ 140737488355328) (hb : b.size ≤ 140737488355328) :
    Calls Try.prog 10 #[.string o, .string a, .string b] w (True1 w) := by
  by_cases h : o.size ≤ 60 ∧ a.size ≤ 60 ∧ b.size ≤ 60
  · obtain ⟨h1, h2, h3⟩ := h
    have l1 : ¬ (60 : Int) < (o.size : Int) := by omega
    have l2 : ¬ (60 : Int) < (a.size : Int) := by omega
    have l3 : ¬ (60 : Int) < (b.size : Int) := by omega
    obtain ⟨r1, e1⟩ : ∃ r, textOf o a b = r := ⟨_, rfl⟩
    obtain ⟨r2, e2⟩ : ∃ r, textOf o b a = r := ⟨_, rfl⟩
    have hsw := text_swap o a b (by omega) (by omega) (by omega)
    rw [e1, e2] at hsw
    obtain ⟨t1, n1⟩ := r1
    obtain ⟨t2, n2⟩ := r2
    obtain ⟨hn, ht⟩ := hsw
    simp only [] at hn ht
    subst hn
    have hnb : n2 ≤ 1000000 := by
      have h := congrArg Prod.snd e1
      simp only [textOf] at h
      have lo := split_len o.size o; have la := split_len a.size a; have lb := split_len b.size b
      have hf := (regs_ok (splitS o) (splitS a) (splitS b) (by unfold splitS; omega) (by unfold splitS; omega) (by unfold splitS; omega)).2.1
      have hc := clash_le (regionsOf (splitS o) (splitS a) (splitS b)) (regionsOf (splitS o) (splitS a) (splitS b)).length
      rw [List.take_of_length_le (Nat.le_refl _)] at hc
      unfold splitS at *
      split at h
      · simp only [] at h; omega
      · split at h
        · simp only [] at h; omega
        · split at h
          · simp only [] at h; omega
          · simp only [] at h; omega
    have E1 := Lib.hid e1; have E2 := Lib.hid e2; have HT := Lib.hid ht
    clear e1 e2 ht
    have hq : ((n2 : Int) == (n2 : Int)) = true := by rw [beq_iff_eq]
    by_cases h0 : n2 = 0
    · have hnl : ¬ (0 : Int) < (n2 : Int) := by omega
      have htt := beq_yes (HT.out h0).symm
      clear h0
      go_enter Try.func10, Try.ntmps10
      go_wp2_with fail
      refine (awake_of w).mono ?_
      rintro e w1 ⟨rfl, hc1⟩
      have HC1 := Lib.hid hc1
      clear hc1
      go_wp2_with fail
      refine (text_any o a b _ (by omega) (by omega) (by omega)).mono ?_
      rintro e w2 ⟨rfl, hc2⟩
      have HC2 := Lib.hid hc2
      clear hc2
      rw [E1.out]
      go_wp2_with fail
      refine (text_any o b a _ (by omega) (by omega) (by omega)).mono ?_
      rintro e w3 ⟨rfl, hc3⟩
      have HC3 := Lib.hid hc3
      clear hc3
      rw [E2.out]
      go_wp2_with fail
      go_ret
      exact ⟨rfl, (HC1.out.same HC2.out).same HC3.out⟩
    · have hnl : (0 : Int) < (n2 : Int) := by omega
      clear h0
      go_enter Try.func10, Try.ntmps10
      go_wp2_with fail
      refine (awake_of w).mono ?_
      rintro e w1 ⟨rfl, hc1⟩
      have HC1 := Lib.hid hc1
      clear hc1
      go_wp2_with fail
      refine (text_any o a b _ (by omega) (by omega) (by omega)).mono ?_
      rintro e w2 ⟨rfl, hc2⟩
      have HC2 := Lib.hid hc2
      clear hc2
      rw [E1.out]
      go_wp2_with fail
      refine (text_any o b a _ (by omega) (by omega) (by omega)).mono ?_
      rintro e w3 ⟨rfl, hc3⟩
      have HC3 := Lib.hid hc3
      clear hc3
      rw [E2.out]
      go_wp2_with fail
      go_ret
      exact ⟨rfl, (HC1.out.same HC2.out).same HC3.out⟩
  · have hd : (60 < o.size) ∨ (¬ 60 < o.size ∧ 60 < a.size) ∨ (¬ 60 < o.size ∧ ¬ 60 < a.size ∧ 60 < b.size) := by omega
    clear h
    rcases hd with l0 | ⟨l0, l1⟩ | ⟨l0, l1, l2⟩
    · have m0 : (60 : Int) < (o.size : Int) := by omega
      clear l0
      go_enter Try.func10, Try.ntmps10
      go_wp2_with fail
      refine (awake_of w).mono ?_
      rintro e w1 ⟨rfl, hc1⟩
      have HC1 := Lib.hid hc1
      clear hc1
      go_wp2_with fail
      go_ret
      exact ⟨rfl, HC1.out⟩
    · have m0 : ¬ (60 : Int) < (o.size : Int) := by omega
      have m1 : (60 : Int) < (a.size : Int) := by omega
      clear l0 l1
      go_enter Try.func10, Try.ntmps10
      go_wp2_with fail
      refine (awake_of w).mono ?_
      rintro e w1 ⟨rfl, hc1⟩
      have HC1 := Lib.hid hc1
      clear hc1
      go_wp2_with fail
      go_ret
      exact ⟨rfl, HC1.out⟩
    · have m0 : ¬ (60 : Int) < (o.size : Int) := by omega
      have m1 : ¬ (60 : Int) < (a.size : Int) := by omega
      have m2 : (60 : Int) < (b.size : Int) := by omega
      clear l0 l1 l2
      go_enter Try.func10, Try.ntmps10
      go_wp2_with fail
      refine (awake_of w).mono ?_
      rintro e w1 ⟨rfl, hc1⟩
      have HC1 := Lib.hid hc1
      clear hc1
      go_wp2_with fail
      go_ret
      exact ⟨rfl, HC1.out⟩

set_option maxRecDepth 100000 in
set_option maxHeartbeats 8000000 in
theorem one_of (Al Am : Option Addr) (cl cm : Nat) (o a : ByteArray) (l m : List ByteArray) (w : World) (ho : o.size ≤ 140737488355328) (ha : a.size ≤ 140737488355328) (hl : El.str.Row w Al cl l) (hm : El.str.Row w Am cm m)
    (sl : ∀ x ∈ l, x.size ≤ 140737488355328) (sm : ∀ x ∈ m, x.size ≤ 140737488355328) :
    Calls Try.prog 9 #[.string o, .string a, .slice Al l.length cl, .slice Am m.length cm] w (True1 w) := by
  have hlm := hl.len; have hmm := hm.len
  have HL := Lib.hid hl; have HM := Lib.hid hm
  have HSL := Lib.hid sl; have HSM := Lib.hid sm
  clear hl hm sl sm
  by_cases h : o.size ≤ 60 ∧ a.size ≤ 60 ∧ l.length ≤ 30 ∧ m.length ≤ 30
  · obtain ⟨h1, h2, h3, h4⟩ := h
    have l1 : ¬ (60 : Int) < (o.size : Int) := by omega
    have l2 : ¬ (60 : Int) < (a.size : Int) := by omega
    have l3 : ¬ (30 : Int) < (l.length : Int) := by omega
    have l4 : ¬ (30 : Int) < (m.length : Int) := by omega
    have E1 : Hid (textOf o a o = (a, 0)) := Lib.hid (by unfold textOf; rw [if_pos (.inr rfl : a = o ∨ o = o)])
    have E2 : Hid (textOf o o a = (a, 0)) := Lib.hid (by
      unfold textOf
      by_cases hq : o = a
      · rw [if_pos (.inl hq : o = a ∨ a = o), hq]
      · rw [if_neg (by rintro (h | h); exact hq h; exact hq h.symm : ¬ (o = a ∨ a = o)), if_pos rfl])
    have E3 : Hid (textOf o a a = (a, 0)) := Lib.hid (by unfold textOf; rw [if_pos (.inl rfl : a = a ∨ a = o)])
    have M4 := Lib.hid (one_left l m (by omega) (by omega))
    have M5 := Lib.hid (one_right l m (by omega) (by omega))
    have M6 := Lib.hid (one_both l m (by omega) (by omega))
    have zl : ∀ x ∈ l, x.size ≤ 9223372036854775806 := fun x hx => by have := HSL.out x hx; omega
    have zm : ∀ x ∈ m, x.size ≤ 9223372036854775806 := fun x hx => by have := HSM.out x hx; omega
    have F4 := Lib.hid (fit_of l m l (by omega) (by omega) (by omega) zl zm zl)
    have F5 := Lib.hid (fit_of l l m (by omega) (by omega) (by omega) zl zl zm)
    have F6 := Lib.hid (fit_of l m m (by omega) (by omega) (by omega) zl zm zm)
    clear zl zm
    have hq := beq_yes (rfl : a = a)
    have hdd : decide (m = m) = true := by simp
    go_enter Try.func9, Try.ntmps9
    go_wp2_with fail
    refine (awake_of w).mono ?_
    rintro e w0 ⟨rfl, hc⟩
    have HC0 := Lib.hid hc
    clear hc
    go_wp2_with fail
    refine (text_any o a o _ (by omega) (by omega) (by omega)).mono ?_
    rintro e w1 ⟨rfl, hc⟩
    have HC1 := Lib.hid (HC0.out.same hc)
    clear hc
    rw [E1.out]
    go_wp2_with fail
    refine (text_any o o a _ (by omega) (by omega) (by omega)).mono ?_
    rintro e w2 ⟨rfl, hc⟩
    have HC2 := Lib.hid (HC1.out.same hc)
    clear hc
    rw [E2.out]
    go_wp2_with fail
    refine (text_any o a a _ (by omega) (by omega) (by omega)).mono ?_
    rintro e w3 ⟨rfl, hc⟩
    have HC3 := Lib.hid (HC2.out.same hc)
    clear hc
    rw [E3.out]
    go_wp2_with fail
    refine (lines_any Al Am Al cl cm cl l m l _ (HL.out.ch HC3.out) (HM.out.ch HC3.out) (HL.out.ch HC3.out) F4.out).mono ?_
    rintro e w4 ⟨v4, rfl, hv4, hc⟩
    have hv4' : OwnS w4 w3.heap.size v4 m := by have := hv4; rw [show (regionsOf l m l).flatMap (tellR l m l) = m from M4.out.1] at this; exact this
    rw [M4.out.2]
    obtain ⟨A4, c4, rfl, hr⟩ := SL.of_own hv4'
    have HR4 := Lib.hid hr; have HC4 := Lib.hid (HC3.out.same hc); have HD4 := Lib.hid hc
    clear hv4 hv4' hr hc
    go_wp2_with fail
    refine (lines_any Al Al Am cl cl cm l l m _ (HL.out.ch HC4.out) (HL.out.ch HC4.out) (HM.out.ch HC4.out) F5.out).mono ?_
    rintro e w5 ⟨v5, rfl, hv5, hc⟩
    have hv5' : OwnS w5 w4.heap.size v5 m := by have := hv5; rw [show (regionsOf l l m).flatMap (tellR l l m) = m from M5.out.1] at this; exact this
    rw [M5.out.2]
    obtain ⟨A5, c5, rfl, hr⟩ := SL.of_own hv5'
    have HR5 := Lib.hid hr; have HC5 := Lib.hid (HC4.out.same hc); have HD5 := Lib.hid hc
    clear hv5 hv5' hr hc
    go_wp2_with fail
    refine (lines_any Al Am Am cl cm cm l m m _ (HL.out.ch HC5.out) (HM.out.ch HC5.out) (HM.out.ch HC5.out) F6.out).mono ?_
    rintro e w6 ⟨v6, rfl, hv6, hc⟩
    have hv6' : OwnS w6 w5.heap.size v6 m := by have := hv6; rw [show (regionsOf l m m).flatMap (tellR l m m) = m from M6.out.1] at this; exact this
    rw [M6.out.2]
    obtain ⟨A6, c6, rfl, hr⟩ := SL.of_own hv6'
    have HR6 := Lib.hid hr; have HC6 := Lib.hid (HC5.out.same hc); have HD6 := Lib.hid hc
    clear hv6 hv6' hr hc
    go_wp2_with fail
    refine (texts_any A4 Am c4 cm m m _ (HR4.out.ch (HD5.out.same HD6.out)) (HM.out.ch HC6.out)).mono ?_
    rintro e w7 ⟨rfl, hdr⟩
    have HC7 := Lib.hid (HC6.out.same (hdr.ch no)); have HD7 := Lib.hid (hdr.ch no)
    clear hdr
    rw [show decide (m = m) = true from by simp]
    go_wp2_with fail
    refine (texts_any A5 Am c5 cm m m _ (HR5.out.ch (HD6.out.same HD7.out)) (HM.out.ch HC7.out)).mono ?_
    rintro e w8 ⟨rfl, hdr⟩
    have HC8 := Lib.hid (HC7.out.same (hdr.ch no)); have HD8 := Lib.hid (hdr.ch no)
    clear hdr
    rw [show decide (m = m) = true from by simp]
    go_wp2_with fail
    refine (texts_any A6 Am c6 cm m m _ (HR6.out.ch (HD7.out.same HD8.out)) (HM.out.ch HC8.out)).mono ?_
    rintro e w9 ⟨rfl, hdr⟩
    have HC9 := Lib.hid (HC8.out.same (hdr.ch no)); have HD9 := Lib.hid (hdr.ch no)
    clear hdr
    rw [show decide (m = m) = true from by simp]
    go_wp2_with fail
    go_ret
    exact ⟨rfl, HC9.out⟩
  · have hd : (60 < o.size) ∨ (¬ 60 < o.size ∧ 60 < a.size) ∨ (¬ 60 < o.size ∧ ¬ 60 < a.size ∧ 30 < l.length) ∨ (¬ 60 < o.size ∧ ¬ 60 < a.size ∧ ¬ 30 < l.length ∧ 30 < m.length) := by omega
    clear h
    rcases hd with l0 | ⟨l0, l1⟩ | ⟨l0, l1, l2⟩ | ⟨l0, l1, l2, l3⟩
    · have m0 : (60 : Int) < (o.size : Int) := by omega
      clear l0
      go_enter Try.func9, Try.ntmps9
      go_wp2_with fail
      refine (awake_of w).mono ?_
      rintro e w1 ⟨rfl, hc1⟩
      have HC1 := Lib.hid hc1
      clear hc1
      go_wp2_with fail
      go_ret
      exact ⟨rfl, HC1.out⟩
    · have m0 : ¬ (60 : Int) < (o.size : Int) := by omega
      have m1 : (60 : Int) < (a.size : Int) := by omega
      clear l0 l1
      go_enter Try.func9, Try.ntmps9
      go_wp2_with fail
      refine (awake_of w).mono ?_
      rintro e w1 ⟨rfl, hc1⟩
      have HC1 := Lib.hid hc1
      clear hc1
      go_wp2_with fail
      go_ret
      exact ⟨rfl, HC1.out⟩
    · have m0 : ¬ (60 : Int) < (o.size : Int) := by omega
      have m1 : ¬ (60 : Int) < (a.size : Int) := by omega
      have m2 : (30 : Int) < (l.length : Int) := by omega
      clear l0 l1 l2
      go_enter Try.func9, Try.ntmps9
      go_wp2_with fail
      refine (awake_of w).mono ?_
      rintro e w1 ⟨rfl, hc1⟩
      have HC1 := Lib.hid hc1
      clear hc1
      go_wp2_with fail
      go_ret
      exact ⟨rfl, HC1.out⟩
    · have m0 : ¬ (60 : Int) < (o.size : Int) := by omega
      have m1 : ¬ (60 : Int) < (a.size : Int) := by omega
      have m2 : ¬ (30 : Int) < (l.length : Int) := by omega
      have m3 : (30 : Int) < (m.length : Int) := by omega
      clear l0 l1 l2 l3
      go_enter Try.func9, Try.ntmps9
      go_wp2_with fail
      refine (awake_of w).mono ?_
      rintro e w1 ⟨rfl, hc1⟩
      have HC1 := Lib.hid hc1
      clear hc1
      go_wp2_with fail
      go_ret
      exact ⟨rfl, HC1.out⟩

end Go.Proofs.Ytpmfojnccfnleaa.Pi
