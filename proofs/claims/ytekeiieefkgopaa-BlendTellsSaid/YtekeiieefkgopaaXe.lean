/- Trees of files: how they lie in memory; what stands at a path. What a tree has at a path: walked. -/
import Derived.Test.YtekeiieefkgopaaNq
namespace Go.Proofs.Ytekeiieefkgopaa.Ba
open Go Go.RowKit Go.Proofs.Ytekeiieefkgopaa.Aa Go.Proofs.Ytekeiieefkgopaa.Vw Go.Proofs.Ytekeiieefkgopaa.No Go.Proofs.Ytekeiieefkgopaa.Np Go.Proofs.Ytekeiieefkgopaa.Nq
set_option linter.unusedVariables false
set_option linter.unusedSimpArgs false

/-- A file. -/
structure Fl where
  path : ByteArray
  text : ByteArray
deriving DecidableEq
abbrev Fl.val (f : Fl) : Value := .agg #[.string f.path, .string f.text]
/-- Files in a row. -/
def file : El Fl where
  sz := 2
  R w x cs := cs = [.string x.path, .string x.text]
  len := by rintro w x cs rfl; rfl
  ch := by rintro w w' x cs rfl _; rfl
theorem file_at {w : World} {A : Option Addr} {cap : Nat} {t : List Fl} (h : file.Row w A cap t) (k : Nat) (hk : k < t.length) :
    ∃ ad, A = some ad ∧ w.cell? (ad.add (k * 2)) = some (.string t[k].path) ∧ w.cell? ⟨(ad.add (k * 2)).block, (ad.add (k * 2)).off + 1, none⟩ = some (.string t[k].text) := by
  obtain ⟨ad, cs, rfl, h2, h3⟩ := h.at_ k hk
  have e : cs = [.string t[k].path, .string t[k].text] := h2
  subst e
  have h0 := h3 0 _ rfl
  have h1 := h3 1 _ rfl
  have hz : file.sz = 2 := rfl
  rw [hz] at h0 h1
  rw [add_field ad (k * 2) 1 (by omega)] at h1
  exact ⟨ad, rfl, h0, h1⟩

def less (a b : ByteArray) : Bool := Op.bytesLess a.toList b.toList
theorem bl_irrefl : ∀ (x : List UInt8), Op.bytesLess x x = false
  | [] => rfl
  | a :: x => by
    simp only [Op.bytesLess, Bool.or_eq_false_iff, decide_eq_false_iff_not, Bool.and_eq_false_iff, beq_eq_false_iff_ne]
    exact ⟨by rw [UInt8.lt_iff_toNat_lt]; omega, .inr (bl_irrefl x)⟩
theorem bl_trans : ∀ (x y z : List UInt8), Op.bytesLess x y = true → Op.bytesLess y z = true → Op.bytesLess x z = true
  | [], [], z, h, _ => by simp [Op.bytesLess] at h
  | [], b :: y, [], _, h => by simp [Op.bytesLess] at h
  | [], b :: y, c :: z, _, _ => rfl
  | a :: x, [], z, h, _ => by simp [Op.bytesLess] at h
  | a :: x, b :: y, [], _, h => by simp [Op.bytesLess] at h
  | a :: x, b :: y, c :: z, h1, h2 => by
    simp only [Op.bytesLess, Bool.or_eq_true, decide_eq_true_eq, Bool.and_eq_true, beq_iff_eq] at h1 h2 ⊢
    rw [UInt8.lt_iff_toNat_lt] at *
    rcases h1 with h1 | ⟨rfl, h1⟩
    · rcases h2 with h2 | ⟨rfl, h2⟩
      · left; omega
      · left; exact h1
    · rcases h2 with h2 | ⟨rfl, h2⟩
      · left; exact h2
      · right; exact ⟨rfl, bl_trans x y z h1 h2⟩
theorem bl_tri : ∀ (x y : List UInt8), Op.bytesLess x y = false → Op.bytesLess y x = false → x = y
  | [], [], _, _ => rfl
  | [], b :: y, h, _ => by simp [Op.bytesLess] at h
  | a :: x, [], _, h => by simp [Op.bytesLess] at h
  | a :: x, b :: y, h1, h2 => by
    simp only [Op.bytesLess, Bool.or_eq_false_iff, decide_eq_false_iff_not, Bool.and_eq_false_iff, beq_eq_false_iff_ne] at h1 h2
    have hab : a = b := by
      have q1 := h1.1; have q2 := h2.1
      rw [UInt8.lt_iff_toNat_lt] at q1 q2
      exact UInt8.toNat_inj.1 (by omega)
    subst hab
    rw [bl_tri x y (by rcases h1.2 with h | h; exact absurd rfl h; exact h) (by rcases h2.2 with h | h; exact absurd rfl h; exact h)]
theorem less_irrefl (a : ByteArray) : less a a = false := bl_irrefl _
theorem less_trans {a b c : ByteArray} (h1 : less a b = true) (h2 : less b c = true) : less a c = true := bl_trans _ _ _ h1 h2
theorem less_asym {a b : ByteArray} (h : less a b = true) : less b a = false := by
  cases hb : less b a with
  | false => rfl
  | true => have := less_trans h hb; rw [less_irrefl] at this; cases this
theorem less_tri {a b : ByteArray} (h1 : less a b = false) (h2 : less b a = false) : a = b := by
  have := bl_tri _ _ h1 h2
  rw [ByteArray.toList_eq, ByteArray.toList_eq] at this
  exact ByteArray.ext (Array.toList_inj.1 this)
theorem less_ne {a b : ByteArray} (h : less a b = true) : a ≠ b := by rintro rfl; rw [less_irrefl] at h; cases h

/-- Paths rise. -/
def Rise (t : List Fl) : Prop := t.Pairwise (fun x y => less x.path y.path = true)
/-- What stands at a path. -/
def getF (t : List Fl) (p : ByteArray) : Option ByteArray := (t.find? (fun f => decide (f.path = p))).map (·.text)
/-- How many paths are less than one. -/
def cntF : List Fl → ByteArray → Nat
  | [], _ => 0
  | f :: t, p => if less f.path p then cntF t p + 1 else 0
theorem cntF_le (t : List Fl) (p : ByteArray) : cntF t p ≤ t.length := by
  induction t with
  | nil => simp [cntF]
  | cons f t ih => simp only [cntF]; split <;> simp <;> omega
theorem cntF_lt (t : List Fl) (p : ByteArray) (i : Nat) (hi : i < t.length) (h : i < cntF t p) : less t[i].path p = true := by
  induction t generalizing i with
  | nil => simp at hi
  | cons f t ih =>
    simp only [cntF] at h
    split at h
    · rename_i hf
      cases i with
      | zero => exact hf
      | succ i => exact ih i (by simpa using hi) (by omega)
    · omega
theorem cntF_ge {t : List Fl} (hr : Rise t) (p : ByteArray) (i : Nat) (hi : i < t.length) (h : cntF t p ≤ i) : less t[i].path p = false := by
  induction t generalizing i with
  | nil => simp at hi
  | cons f t ih =>
    unfold Rise at hr
    rw [List.pairwise_cons] at hr
    simp only [cntF] at h
    split at h
    · cases i with
      | zero => omega
      | succ i => exact ih hr.2 i (by simpa using hi) (by omega)
    · rename_i hf
      cases i with
      | zero => simpa using hf
      | succ i =>
        cases hx : less (f :: t)[i + 1].path p with
        | false => rfl
        | true => exact absurd (less_trans (hr.1 _ (List.getElem_mem (by simpa using hi))) hx) hf
theorem cntF_unique {t : List Fl} (hr : Rise t) (p : ByteArray) (n : Nat) (hn : n ≤ t.length) (h1 : ∀ i (hi : i < t.length), i < n → less t[i].path p = true) (h2 : ∀ i (hi : i < t.length), n ≤ i → less t[i].path p = false) : cntF t p = n := by
  rcases Nat.lt_trichotomy (cntF t p) n with h | h | h
  · have := h1 (cntF t p) (by omega) h
    rw [cntF_ge hr p _ (by omega) (Nat.le_refl _)] at this
    cases this
  · exact h
  · have := cntF_le t p
    have h3 := h2 n (by omega) (Nat.le_refl _)
    rw [cntF_lt t p n (by omega) h] at h3
    cases h3
theorem get_at {t : List Fl} (hr : Rise t) (p : ByteArray) : getF t p = if h : cntF t p < t.length then (if t[cntF t p].path = p then some t[cntF t p].text else none) else none := by
  induction t with
  | nil => simp [getF]
  | cons f t ih =>
    have hr2 := hr
    unfold Rise at hr
    rw [List.pairwise_cons] at hr
    unfold getF at *
    simp only [List.find?_cons, cntF]
    by_cases hf : less f.path p = true
    · have hne : f.path ≠ p := less_ne hf
      simp only [hne, decide_false, hf, if_true]
      rw [ih hr.2]
      by_cases hlt : cntF t p < t.length
      · rw [dif_pos hlt, dif_pos (by simpa using hlt)]
        simp
      · rw [dif_neg hlt, dif_neg (by simpa using hlt)]
    · simp only [hf]
      rw [dif_pos (by simp)]
      by_cases he : f.path = p
      · simp [he]
      · have hnone : t.find? (fun f => decide (f.path = p)) = none := by
          rw [List.find?_eq_none]
          intro g hg
          have h1 := hr.1 g hg
          simp only [decide_eq_true_eq]
          rintro rfl
          exact hf h1
        simp [he, hnone]

/-- The paths of two trees. -/
def pathsL : List Fl → List Fl → List ByteArray
  | x :: a, [] => x.path :: pathsL a []
  | [], y :: b => y.path :: pathsL [] b
  | x :: a, y :: b => if less x.path y.path then x.path :: pathsL a (y :: b) else if less y.path x.path then y.path :: pathsL (x :: a) b else x.path :: pathsL a b
  | [], [] => []
termination_by a b => a.length + b.length
/-- What stands at a path, or nothing. -/
structure At where
  text : ByteArray
  is : Bool
deriving DecidableEq
def ofF (t : List Fl) (p : ByteArray) : At := match getF t p with | some s => ⟨s, true⟩ | none => ⟨ByteArray.empty, false⟩
def bothB (o a b : At) : At × Bool :=
  if a.is = false then (b, true) else if b.is = false then (a, true)
  else if 65536 < (textOf o.text a.text b.text).1.size then (⟨maxS a.text b.text, true⟩, true)
  else (⟨(textOf o.text a.text b.text).1, true⟩, decide (0 < (textOf o.text a.text b.text).2))
def oneB (o a b : At) : At × Bool := if a = b ∨ b = o then (a, false) else if a = o then (b, false) else bothB o a b
/-- Trees in the making. -/
def stepTr (o a b : List Fl) (s : List Fl × List ByteArray) (p : ByteArray) : List Fl × List ByteArray :=
  (if (oneB (ofF o p) (ofF a p) (ofF b p)).1.is && decide (s.1.length < 1000) then s.1 ++ [⟨p, (oneB (ofF o p) (ofF a p) (ofF b p)).1.text⟩] else s.1,
   if (oneB (ofF o p) (ofF a p) (ofF b p)).2 then s.2 ++ [p] else s.2)
def treesL (o a b : List Fl) : List Fl × List ByteArray := (pathsL a b).foldl (stepTr o a b) ([], [])

end Go.Proofs.Ytekeiieefkgopaa.Ba
namespace Go.Proofs.Ytekeiieefkgopaa.Bc
open Go.RowKit Go.Proofs.Ytekeiieefkgopaa.Aa Go.Proofs.Ytekeiieefkgopaa.Vw Go.Proofs.Ytekeiieefkgopaa.Mb Go.Proofs.Ytekeiieefkgopaa.Na Go.Proofs.Ytekeiieefkgopaa.No Go.Proofs.Ytekeiieefkgopaa.Nq Go.Proofs.Ytekeiieefkgopaa.Ba
set_option linter.unusedVariables false
set_option linter.unusedSimpArgs false

def cmpV (a b : ByteArray) : Int := if less a b then -1 else if less b a then 1 else 0

theorem nan_of (s : ByteArray) (w : World) : Calls Try.prog 49 #[.string s] w fun e w' => e = .returned (.bool false) ∧ w = w' := by
  have hq := beq_yes (rfl : s = s)
  go_enter Try.func49, Try.ntmps49
  go_wp2_with fail
  go_ret
  exact ⟨rfl, rfl⟩
theorem run_gtr (t : TypeId) (a b : ByteArray) (w : World) : (binOp .gtr t (.string a) (.string b)).run Try.prog w = .ok (.bool (!(Op.bytesLess a.toList b.toList || a.toList == b.toList))) w := rfl
set_option maxHeartbeats 1000000 in
theorem compare_of (a b : ByteArray) (w : World) : Calls Try.prog 39 #[.string a, .string b] w fun e w' => e = .returned (.int .i64 (cmpV a b)) ∧ w = w' := by
  cases h1 : less a b with
  | true =>
    have HC : Hid (cmpV a b = -1) := Lib.hid (by unfold cmpV; rw [h1]; rfl)
    have q1 : Op.bytesLess a.toList b.toList = true := h1
    clear h1
    go_enter Try.func39, Try.ntmps39
    go_wp2_with (refine (nan_of _ _).mono ?_; rintro e w' ⟨rfl, rfl⟩)
    go_ret
    exact ⟨by rw [HC.out]; rfl, rfl⟩
  | false =>
    have q1 : Op.bytesLess a.toList b.toList = false := h1
    cases h2 : less b a with
    | true =>
      have HC : Hid (cmpV a b = 1) := Lib.hid (by unfold cmpV; rw [h1, h2]; rfl)
      have q2 := beq_no (less_ne h2).symm
      have q3 := run_gtr 9 a b w
      rw [q1, q2] at q3
      simp only [Bool.or_self, Bool.not_false] at q3
      clear h1 h2
      go_enter Try.func39, Try.ntmps39
      go_wp2_with (refine (nan_of _ _).mono ?_; rintro e w' ⟨rfl, rfl⟩)
      go_ret
      exact ⟨by rw [HC.out]; rfl, rfl⟩
    | false =>
      have HC : Hid (cmpV a b = 0) := Lib.hid (by unfold cmpV; rw [h1, h2]; rfl)
      have q2 := beq_yes (less_tri h1 h2)
      have q3 := run_gtr 9 a b w
      rw [q1, q2] at q3
      simp only [Bool.or_true, Bool.not_true] at q3
      clear h1 h2
      go_enter Try.func39, Try.ntmps39
      go_wp2_with (refine (nan_of _ _).mono ?_; rintro e w' ⟨rfl, rfl⟩)
      go_ret
      exact ⟨by rw [HC.out]; rfl, rfl⟩
theorem cmpf_of (f : Fl) (p : ByteArray) (w : World) : Calls Try.prog 38 #[f.val, .string p] w fun e w' => e = .returned (.int .i64 (cmpV f.path p)) ∧ Ch no w w' := by
  obtain ⟨q, s⟩ := f
  go_enter Try.func38, Try.ntmps38
  go_wp2_with fail
  refine (compare_of q p _).mono ?_
  rintro e w' ⟨rfl, hw⟩
  rw [← hw]
  clear hw w'
  obtain ⟨c, hc⟩ : ∃ c, cmpV q p = c := ⟨_, rfl⟩
  rw [hc]
  have HC := Lib.hid hc
  clear hc
  go_wp2_with fail
  go_ret
  exact ⟨by rw [show cmpV (Fl.mk q s).path p = c from HC.out]; rfl, (Ch.refl _ _).alloc _⟩
theorem cmpV_neg (a b : ByteArray) : decide (cmpV a b < 0) = less a b := by
  unfold cmpV
  cases less a b
  · cases less b a <;> rfl
  · rfl
theorem cmpV_zero (a b : ByteArray) (h : less a b = false) : (cmpV a b == 0) = decide (a = b) := by
  unfold cmpV
  rw [h]
  cases h2 : less b a
  · rw [less_tri h h2]; simp
  · have := less_ne h2
    simp [Ne.symm this]

set_option maxRecDepth 100000 in
set_option maxHeartbeats 4000000 in
theorem bsearch_of (A : Option Addr) (c : Nat) (t : List Fl) (p : ByteArray) (w : World) (ht : file.Row w A c t) (hr : Rise t) (hn : t.length ≤ 1000000) :
    Calls Try.prog 37 #[.slice A t.length c, .string p, .func (.func 38) #[] #[]] w fun e w' => e = .returned (.tuple #[.int .i64 (cntF t p), .bool (getF t p).isSome]) ∧ Ch no w w' := by
  have hle := ht.le
  have HT := Lib.hid ht; have HR := Lib.hid hr
  clear ht hr
  go_enter Try.func37, Try.ntmps37
  go_wp2_with fail
  go_loopw [9, 10] (fun i j wr => ∃ a b : Nat, a ≤ b ∧ b ≤ t.length ∧ i = .int .i64 a ∧ j = .int .i64 b ∧ Hid ((∀ k (hk : k < t.length), k < a → less t[k].path p = true) ∧ (∀ k (hk : k < t.length), b ≤ k → less t[k].path p = false)) ∧ Hid (Ch no w wr)) (fun i j _ => (intOf j).toNat - (intOf i).toNat)
  case atStart => exact ⟨0, t.length, by omega, by omega, rfl, rfl, Lib.hid ⟨fun k hk h => by omega, fun k hk h => by omega⟩, Lib.hid (Ch.refl _ _)⟩
  case round =>
    obtain ⟨a, b, hab, hb, rfl, rfl, HS, HC⟩ := hrel
    by_cases hlt : a < b
    · have hh : a ≤ (a + b) / 2 ∧ (a + b) / 2 < b := by omega
      obtain ⟨h, hh0⟩ : ∃ h, (a + b) / 2 = h := ⟨_, rfl⟩
      have hsum : ((a : Int) + b) / 2 = (h : Int) := by omega
      rw [hh0] at hh
      have HSUM := Lib.hid hsum
      have hsz : h < t.length := by omega
      clear hsum hh0
      obtain ⟨ad, rfl, c0, c1⟩ := file_at (HT.out.ch HC.out) h hsz
      go_upto_region 5 with (fail)
      rw [HSUM.out]
      have HF : Hid (cmpV t[h].path p = cmpV t[h].path p) := Lib.hid rfl
      cases hl : less t[h].path p with
      | true =>
        have hneg : cmpV t[h].path p < 0 := of_decide_eq_true (by rw [cmpV_neg, hl])
        have HL := Lib.hid hl
        clear hl
        go_wp2_with fail
        refine (cmpf_of t[h] p _).mono ?_
        rintro e w1 ⟨rfl, hc1⟩
        have HC1 := Lib.hid hc1
        clear hc1 c0 c1
        go_wp2_with fail
        go_roundw
        case rel => exact ⟨h + 1, b, by omega, by omega, by go_num, rfl, Lib.hid ⟨fun k hk hlt2 => by
            rcases Nat.lt_or_ge k h with hq | hq
            · cases hx : less t[k].path p with
              | true => rfl
              | false =>
                exfalso
                have h1 := List.pairwise_iff_getElem.1 HR.out k h hk hsz hq
                have h2 := less_trans h1 HL.out
                rw [hx] at h2; cases h2
            · have : k = h := by omega
              subst this; exact HL.out, HS.out.2⟩, Lib.hid (HC.out.same HC1.out)⟩
        case measure => simp [intOf]; omega
      | false =>
        have hneg : ¬ cmpV t[h].path p < 0 := of_decide_eq_false (by rw [cmpV_neg, hl])
        have HL := Lib.hid hl
        clear hl
        go_wp2_with fail
        refine (cmpf_of t[h] p _).mono ?_
        rintro e w1 ⟨rfl, hc1⟩
        have HC1 := Lib.hid hc1
        clear hc1 c0 c1
        go_wp2_with fail
        go_roundw
        case rel => exact ⟨a, h, by omega, by omega, rfl, rfl, Lib.hid ⟨HS.out.1, fun k hk hlt2 => by
            rcases Nat.lt_or_ge h k with hq | hq
            · cases hx : less t[k].path p with
              | false => rfl
              | true =>
                exfalso
                have h1 := List.pairwise_iff_getElem.1 HR.out h k hsz hk hq
                have h2 := less_trans h1 hx
                rw [HL.out] at h2; cases h2
            · have : k = h := by omega
              subst this; exact HL.out⟩, Lib.hid (HC.out.same HC1.out)⟩
        case measure => simp [intOf]; omega
    · have hab2 : a = b := by omega
      subst hab2
      have hcn := cntF_unique HR.out p a hb HS.out.1 HS.out.2
      have hg := Ba.get_at HR.out p
      rw [hcn] at hg
      by_cases hlt2 : a < t.length
      · obtain ⟨ad, rfl, c0, c1⟩ := file_at (HT.out.ch HC.out) a hlt2
        rw [dif_pos hlt2] at hg
        have hz := cmpV_zero t[a].path p (HS.out.2 a hlt2 (Nat.le_refl _))
        have HG : Hid ((getF t p).isSome = decide (t[a].path = p)) := Lib.hid (by rw [hg]; split <;> simp_all)
        have HCN := Lib.hid hcn
        obtain ⟨q, hq⟩ : ∃ q, cmpV t[a].path p = q := ⟨_, rfl⟩
        rw [hq] at hz
        have HQ := Lib.hid hq
        clear hg hcn hq
        go_wp2_with fail
        refine (cmpf_of t[a] p _).mono ?_
        rintro e w1 ⟨rfl, hc1⟩
        have HC1 := Lib.hid hc1
        rw [HQ.out]
        clear hc1 c0 c1
        go_wp2_with fail
        go_ret2
        rw [HCN.out, HG.out]
        exact ⟨rfl, HC.out.same HC1.out⟩
      · rw [dif_neg hlt2] at hg
        have HG : Hid ((getF t p).isSome = false) := Lib.hid (by rw [hg]; rfl)
        have HCN := Lib.hid hcn
        clear hg hcn
        go_wp2_with fail
        go_ret2
        rw [HCN.out, HG.out]
        exact ⟨rfl, HC.out⟩

end Go.Proofs.Ytekeiieefkgopaa.Bc
