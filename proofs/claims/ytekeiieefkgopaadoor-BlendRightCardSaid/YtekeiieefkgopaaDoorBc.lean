/- What a tree has at a path: walked. -/
import Derived.Test.YtekeiieefkgopaaDoorBa
namespace Go.Proofs.YtekeiieefkgopaaDoor.Bc
open Go.RowKit Go.Proofs.YtekeiieefkgopaaDoor.Aa Go.Proofs.YtekeiieefkgopaaDoor.Vw Go.Proofs.YtekeiieefkgopaaDoor.Mb Go.Proofs.YtekeiieefkgopaaDoor.Na Go.Proofs.YtekeiieefkgopaaDoor.No Go.Proofs.YtekeiieefkgopaaDoor.Nq Go.Proofs.YtekeiieefkgopaaDoor.Ba
set_option linter.unusedVariables false
set_option linter.unusedSimpArgs false

def cmpV (a b : ByteArray) : Int := if less a b then -1 else if less b a then 1 else 0

theorem nan_of (s : ByteArray) (w : World) : Calls Tryd.prog 85 #[.string s] w fun e w' => e = .returned (.bool false) ∧ w = w' := by
  have hq := beq_yes (rfl : s = s)
  go_enter Tryd.func85, Tryd.ntmps85
  go_wp2_with fail
  go_ret
  exact ⟨rfl, rfl⟩
theorem run_gtr (t : TypeId) (a b : ByteArray) (w : World) : (binOp .gtr t (.string a) (.string b)).run Tryd.prog w = .ok (.bool (!(Op.bytesLess a.toList b.toList || a.toList == b.toList))) w := rfl
set_option maxHeartbeats 1000000 in
theorem compare_of (a b : ByteArray) (w : World) : Calls Tryd.prog 65 #[.string a, .string b] w fun e w' => e = .returned (.int .i64 (cmpV a b)) ∧ w = w' := by
  cases h1 : less a b with
  | true =>
    have HC : Hid (cmpV a b = -1) := Lib.hid (by unfold cmpV; rw [h1]; rfl)
    have q1 : Op.bytesLess a.toList b.toList = true := h1
    clear h1
    go_enter Tryd.func65, Tryd.ntmps65
    go_wp2_with (refine (nan_of _ _).mono ?_; rintro e w' ⟨rfl, rfl⟩)
    go_ret
    exact ⟨by rw [HC.out]; rfl, rfl⟩
  | false =>
    have q1 : Op.bytesLess a.toList b.toList = false := h1
    cases h2 : less b a with
    | true =>
      have HC : Hid (cmpV a b = 1) := Lib.hid (by unfold cmpV; rw [h1, h2]; rfl)
      have q2 := beq_no (less_ne h2).symm
      have q3 := run_gtr 9 a b w
      rw [q1, q2] at q3
      simp only [Bool.or_self, Bool.not_false] at q3
      clear h1 h2
      go_enter Tryd.func65, Tryd.ntmps65
      go_wp2_with (refine (nan_of _ _).mono ?_; rintro e w' ⟨rfl, rfl⟩)
      go_ret
      exact ⟨by rw [HC.out]; rfl, rfl⟩
    | false =>
      have HC : Hid (cmpV a b = 0) := Lib.hid (by unfold cmpV; rw [h1, h2]; rfl)
      have q2 := beq_yes (less_tri h1 h2)
      have q3 := run_gtr 9 a b w
      rw [q1, q2] at q3
      simp only [Bool.or_true, Bool.not_true] at q3
      clear h1 h2
      go_enter Tryd.func65, Tryd.ntmps65
      go_wp2_with (refine (nan_of _ _).mono ?_; rintro e w' ⟨rfl, rfl⟩)
      go_ret
      exact ⟨by rw [HC.out]; rfl, rfl⟩
theorem cmpf_of (f : Fl) (p : ByteArray) (w : World) : Calls Tryd.prog 64 #[f.val, .string p] w fun e w' => e = .returned (.int .i64 (cmpV f.path p)) ∧ Ch no w w' := by
  obtain ⟨q, s⟩ := f
  go_enter Tryd.func64, Tryd.ntmps64
  go_wp2_with fail
  refine (compare_of q p _).mono ?_
  rintro e w' ⟨rfl, hw⟩
  rw [← hw]
  clear hw w'
  obtain ⟨c, hc⟩ : ∃ c, cmpV q p = c := ⟨_, rfl⟩
  rw [hc]
  have HC := Lib.hid hc
  clear hc
  go_wp2_with fail
  go_ret
  exact ⟨by rw [show cmpV (Fl.mk q s).path p = c from HC.out]; rfl, (Ch.refl _ _).alloc _⟩
theorem cmpV_neg (a b : ByteArray) : decide (cmpV a b < 0) = less a b := by
  unfold cmpV
  cases less a b
  · cases less b a <;> rfl
  · rfl
theorem cmpV_zero (a b : ByteArray) (h : less a b = false) : (cmpV a b == 0) = decide (a = b) := by
  unfold cmpV
  rw [h]
  cases h2 : less b a
  · rw [less_tri h h2]; simp
  · have := less_ne h2
    simp [Ne.symm this]

set_option maxRecDepth 100000 in
set_option maxHeartbeats 4000000 in
theorem bsearch_of (A : Option Addr) (c : Nat) (t : List Fl) (p : ByteArray) (w : World) (ht : file.Row w A c t) (hr : Rise t) (hn : t.length ≤ 1000000) :
    Calls Tryd.prog 63 #[.slice A t.length c, .string p, .func (.func 64) #[] #[]] w fun e w' => e = .returned (.tuple #[.int .i64 (cntF t p), .bool (getF t p).isSome]) ∧ Ch no w w' := by
  have hle := ht.le
  have HT := Lib.hid ht; have HR := Lib.hid hr
  clear ht hr
  go_enter Tryd.func63, Tryd.ntmps63
  go_wp2_with fail
  go_loopw [9, 10] (fun i j wr => ∃ a b : Nat, a ≤ b ∧ b ≤ t.length ∧ i = .int .i64 a ∧ j = .int .i64 b ∧ Hid ((∀ k (hk : k < t.length), k < a → less t[k].path p = true) ∧ (∀ k (hk : k < t.length), b ≤ k → less t[k].path p = false)) ∧ Hid (Ch no w wr)) (fun i j _ => (intOf j).toNat - (intOf i).toNat)
  case atStart => exact ⟨0, t.length, by omega, by omega, rfl, rfl, Lib.hid ⟨fun k hk h => by omega, fun k hk h => by omega⟩, Lib.hid (Ch.refl _ _)⟩
  case round =>
    obtain ⟨a, b, hab, hb, rfl, rfl, HS, HC⟩ := hrel
    by_cases hlt : a < b
    · have hh : a ≤ (a + b) / 2 ∧ (a + b) / 2 < b := by omega
      obtain ⟨h, hh0⟩ : ∃ h, (a + b) / 2 = h := ⟨_, rfl⟩
      have hsum : ((a : Int) + b) / 2 = (h : Int) := by omega
      rw [hh0] at hh
      have HSUM := Lib.hid hsum
      have hsz : h < t.length := by omega
      clear hsum hh0
      obtain ⟨ad, rfl, c0, c1⟩ := file_at (HT.out.ch HC.out) h hsz
      go_upto_region 5 with (fail)
      rw [HSUM.out]
      have HF : Hid (cmpV t[h].path p = cmpV t[h].path p) := Lib.hid rfl
      cases hl : less t[h].path p with
      | true =>
        have hneg : cmpV t[h].path p < 0 := of_decide_eq_true (by rw [cmpV_neg, hl])
        have HL := Lib.hid hl
        clear hl
        go_wp2_with fail
        refine (cmpf_of t[h] p _).mono ?_
        rintro e w1 ⟨rfl, hc1⟩
        have HC1 := Lib.hid hc1
        clear hc1 c0 c1
        go_wp2_with fail
        go_roundw
        case rel => exact ⟨h + 1, b, by omega, by omega, by go_num, rfl, Lib.hid ⟨fun k hk hlt2 => by
            rcases Nat.lt_or_ge k h with hq | hq
            · cases hx : less t[k].path p with
              | true => rfl
              | false =>
                exfalso
                have h1 := List.pairwise_iff_getElem.1 HR.out k h hk hsz hq
                have h2 := less_trans h1 HL.out
                rw [hx] at h2; cases h2
            · have : k = h := by omega
              subst this; exact HL.out, HS.out.2⟩, Lib.hid (HC.out.same HC1.out)⟩
        case measure => simp [intOf]; omega
      | false =>
        have hneg : ¬ cmpV t[h].path p < 0 := of_decide_eq_false (by rw [cmpV_neg, hl])
        have HL := Lib.hid hl
        clear hl
        go_wp2_with fail
        refine (cmpf_of t[h] p _).mono ?_
        rintro e w1 ⟨rfl, hc1⟩
        have HC1 := Lib.hid hc1
        clear hc1 c0 c1
        go_wp2_with fail
        go_roundw
        case rel => exact ⟨a, h, by omega, by omega, rfl, rfl, Lib.hid ⟨HS.out.1, fun k hk hlt2 => by
            rcases Nat.lt_or_ge h k with hq | hq
            · cases hx : less t[k].path p with
              | false => rfl
              | true =>
                exfalso
                have h1 := List.pairwise_iff_getElem.1 HR.out h k hsz hk hq
                have h2 := less_trans h1 hx
                rw [HL.out] at h2; cases h2
            · have : k = h := by omega
              subst this; exact HL.out⟩, Lib.hid (HC.out.same HC1.out)⟩
        case measure => simp [intOf]; omega
    · have hab2 : a = b := by omega
      subst hab2
      have hcn := cntF_unique HR.out p a hb HS.out.1 HS.out.2
      have hg := Ba.get_at HR.out p
      rw [hcn] at hg
      by_cases hlt2 : a < t.length
      · obtain ⟨ad, rfl, c0, c1⟩ := file_at (HT.out.ch HC.out) a hlt2
        rw [dif_pos hlt2] at hg
        have hz := cmpV_zero t[a].path p (HS.out.2 a hlt2 (Nat.le_refl _))
        have HG : Hid ((getF t p).isSome = decide (t[a].path = p)) := Lib.hid (by rw [hg]; split <;> simp_all)
        have HCN := Lib.hid hcn
        obtain ⟨q, hq⟩ : ∃ q, cmpV t[a].path p = q := ⟨_, rfl⟩
        rw [hq] at hz
        have HQ := Lib.hid hq
        clear hg hcn hq
        go_wp2_with fail
        refine (cmpf_of t[a] p _).mono ?_
        rintro e w1 ⟨rfl, hc1⟩
        have HC1 := Lib.hid hc1
        rw [HQ.out]
        clear hc1 c0 c1
        go_wp2_with fail
        go_ret2
        rw [HCN.out, HG.out]
        exact ⟨rfl, HC.out.same HC1.out⟩
      · rw [dif_neg hlt2] at hg
        have HG : Hid ((getF t p).isSome = false) := Lib.hid (by rw [hg]; rfl)
        have HCN := Lib.hid hcn
        clear hg hcn
        go_wp2_with fail
        go_ret2
        rw [HCN.out, HG.out]
        exact ⟨rfl, HC.out⟩

end Go.Proofs.YtekeiieefkgopaaDoor.Bc
