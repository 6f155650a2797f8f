/- Trees of files: how they lie in memory; what stands at a path. -/
import Derived.Test.YtekeiieefkgopaaDoorNq
namespace Go.Proofs.YtekeiieefkgopaaDoor.Ba
open Go Go.RowKit Go.Proofs.YtekeiieefkgopaaDoor.Aa Go.Proofs.YtekeiieefkgopaaDoor.Vw Go.Proofs.YtekeiieefkgopaaDoor.No Go.Proofs.YtekeiieefkgopaaDoor.Np Go.Proofs.YtekeiieefkgopaaDoor.Nq
set_option linter.unusedVariables false
set_option linter.unusedSimpArgs false

/-- A file. -/
structure Fl where
  path : ByteArray
  text : ByteArray
deriving DecidableEq
abbrev Fl.val (f : Fl) : Value := .agg #[.string f.path, .string f.text]
/-- Files in a row. -/
def file : El Fl where
  sz := 2
  R w x cs := cs = [.string x.path, .string x.text]
  len := by rintro w x cs rfl; rfl
  ch := by rintro w w' x cs rfl _; rfl
theorem file_at {w : World} {A : Option Addr} {cap : Nat} {t : List Fl} (h : file.Row w A cap t) (k : Nat) (hk : k < t.length) :
    ∃ ad, A = some ad ∧ w.cell? (ad.add (k * 2)) = some (.string t[k].path) ∧ w.cell? ⟨(ad.add (k * 2)).block, (ad.add (k * 2)).off + 1, none⟩ = some (.string t[k].text) := by
  obtain ⟨ad, cs, rfl, h2, h3⟩ := h.at_ k hk
  have e : cs = [.string t[k].path, .string t[k].text] := h2
  subst e
  have h0 := h3 0 _ rfl
  have h1 := h3 1 _ rfl
  have hz : file.sz = 2 := rfl
  rw [hz] at h0 h1
  rw [add_field ad (k * 2) 1 (by omega)] at h1
  exact ⟨ad, rfl, h0, h1⟩

def less (a b : ByteArray) : Bool := Op.bytesLess a.toList b.toList
theorem bl_irrefl : ∀ (x : List UInt8), Op.bytesLess x x = false
  | [] => rfl
  | a :: x => by
    simp only [Op.bytesLess, Bool.or_eq_false_iff, decide_eq_false_iff_not, Bool.and_eq_false_iff, beq_eq_false_iff_ne]
    exact ⟨by rw [UInt8.lt_iff_toNat_lt]; omega, .inr (bl_irrefl x)⟩
theorem bl_trans : ∀ (x y z : List UInt8), Op.bytesLess x y = true → Op.bytesLess y z = true → Op.bytesLess x z = true
  | [], [], z, h, _ => by simp [Op.bytesLess] at h
  | [], b :: y, [], _, h => by simp [Op.bytesLess] at h
  | [], b :: y, c :: z, _, _ => rfl
  | a :: x, [], z, h, _ => by simp [Op.bytesLess] at h
  | a :: x, b :: y, [], _, h => by simp [Op.bytesLess] at h
  | a :: x, b :: y, c :: z, h1, h2 => by
    simp only [Op.bytesLess, Bool.or_eq_true, decide_eq_true_eq, Bool.and_eq_true, beq_iff_eq] at h1 h2 ⊢
    rw [UInt8.lt_iff_toNat_lt] at *
    rcases h1 with h1 | ⟨rfl, h1⟩
    · rcases h2 with h2 | ⟨rfl, h2⟩
      · left; omega
      · left; exact h1
    · rcases h2 with h2 | ⟨rfl, h2⟩
      · left; exact h2
      · right; exact ⟨rfl, bl_trans x y z h1 h2⟩
theorem bl_tri : ∀ (x y : List UInt8), Op.bytesLess x y = false → Op.bytesLess y x = false → x = y
  | [], [], _, _ => rfl
  | [], b :: y, h, _ => by simp [Op.bytesLess] at h
  | a :: x, [], _, h => by simp [Op.bytesLess] at h
  | a :: x, b :: y, h1, h2 => by
    simp only [Op.bytesLess, Bool.or_eq_false_iff, decide_eq_false_iff_not, Bool.and_eq_false_iff, beq_eq_false_iff_ne] at h1 h2
    have hab : a = b := by
      have q1 := h1.1; have q2 := h2.1
      rw [UInt8.lt_iff_toNat_lt] at q1 q2
      exact UInt8.toNat_inj.1 (by omega)
    subst hab
    rw [bl_tri x y (by rcases h1.2 with h | h; exact absurd rfl h; exact h) (by rcases h2.2 with h | h; exact absurd rfl h; exact h)]
theorem less_irrefl (a : ByteArray) : less a a = false := bl_irrefl _
theorem less_trans {a b c : ByteArray} (h1 : less a b = true) (h2 : less b c = true) : less a c = true := bl_trans _ _ _ h1 h2
theorem less_asym {a b : ByteArray} (h : less a b = true) : less b a = false := by
  cases hb : less b a with
  | false => rfl
  | true => have := less_trans h hb; rw [less_irrefl] at this; cases this
theorem less_tri {a b : ByteArray} (h1 : less a b = false) (h2 : less b a = false) : a = b := by
  have := bl_tri _ _ h1 h2
  rw [ByteArray.toList_eq, ByteArray.toList_eq] at this
  exact ByteArray.ext (Array.toList_inj.1 this)
theorem less_ne {a b : ByteArray} (h : less a b = true) : a ≠ b := by rintro rfl; rw [less_irrefl] at h; cases h

/-- Paths rise. -/
def Rise (t : List Fl) : Prop := t.Pairwise (fun x y => less x.path y.path = true)
/-- What stands at a path. -/
def getF (t : List Fl) (p : ByteArray) : Option ByteArray := (t.find? (fun f => decide (f.path = p))).map (·.text)
/-- How many paths are less than one. -/
def cntF : List Fl → ByteArray → Nat
  | [], _ => 0
  | f :: t, p => if less f.path p then cntF t p + 1 else 0
theorem cntF_le (t : List Fl) (p : ByteArray) : cntF t p ≤ t.length := by
  induction t with
  | nil => simp [cntF]
  | cons f t ih => simp only [cntF]; split <;> simp <;> omega
theorem cntF_lt (t : List Fl) (p : ByteArray) (i : Nat) (hi : i < t.length) (h : i < cntF t p) : less t[i].path p = true := by
  induction t generalizing i with
  | nil => simp at hi
  | cons f t ih =>
    simp only [cntF] at h
    split at h
    · rename_i hf
      cases i with
      | zero => exact hf
      | succ i => exact ih i (by simpa using hi) (by omega)
    · omega
theorem cntF_ge {t : List Fl} (hr : Rise t) (p : ByteArray) (i : Nat) (hi : i < t.length) (h : cntF t p ≤ i) : less t[i].path p = false := by
  induction t generalizing i with
  | nil => simp at hi
  | cons f t ih =>
    unfold Rise at hr
    rw [List.pairwise_cons] at hr
    simp only [cntF] at h
    split at h
    · cases i with
      | zero => omega
      | succ i => exact ih hr.2 i (by simpa using hi) (by omega)
    · rename_i hf
      cases i with
      | zero => simpa using hf
      | succ i =>
        cases hx : less (f :: t)[i + 1].path p with
        | false => rfl
        | true => exact absurd (less_trans (hr.1 _ (List.getElem_mem (by simpa using hi))) hx) hf
theorem cntF_unique {t : List Fl} (hr : Rise t) (p : ByteArray) (n : Nat) (hn : n ≤ t.length) (h1 : ∀ i (hi : i < t.length), i < n → less t[i].path p = true) (h2 : ∀ i (hi : i < t.length), n ≤ i → less t[i].path p = false) : cntF t p = n := by
  rcases Nat.lt_trichotomy (cntF t p) n with h | h | h
  · have := h1 (cntF t p) (by omega) h
    rw [cntF_ge hr p _ (by omega) (Nat.le_refl _)] at this
    cases this
  · exact h
  · have := cntF_le t p
    have h3 := h2 n (by omega) (Nat.le_refl _)
    rw [cntF_lt t p n (by omega) h] at h3
    cases h3
theorem get_at {t : List Fl} (hr : Rise t) (p : ByteArray) : getF t p = if h : cntF t p < t.length then (if t[cntF t p].path = p then some t[cntF t p].text else none) else none := by
  induction t with
  | nil => simp [getF]
  | cons f t ih =>
    have hr2 := hr
    unfold Rise at hr
    rw [List.pairwise_cons] at hr
    unfold getF at *
    simp only [List.find?_cons, cntF]
    by_cases hf : less f.path p = true
    · have hne : f.path ≠ p := less_ne hf
      simp only [hne, decide_false, hf, if_true]
      rw [ih hr.2]
      by_cases hlt : cntF t p < t.length
      · rw [dif_pos hlt, dif_pos (by simpa using hlt)]
        simp
      · rw [dif_neg hlt, dif_neg (by simpa using hlt)]
    · simp only [hf]
      rw [dif_pos (by simp)]
      by_cases he : f.path = p
      · simp [he]
      · have hnone : t.find? (fun f => decide (f.path = p)) = none := by
          rw [List.find?_eq_none]
          intro g hg
          have h1 := hr.1 g hg
          simp only [decide_eq_true_eq]
          rintro rfl
          exact hf h1
        simp [he, hnone]

/-- The paths of two trees. -/
def pathsL : List Fl → List Fl → List ByteArray
  | x :: a, [] => x.path :: pathsL a []
  | [], y :: b => y.path :: pathsL [] b
  | x :: a, y :: b => if less x.path y.path then x.path :: pathsL a (y :: b) else if less y.path x.path then y.path :: pathsL (x :: a) b else x.path :: pathsL a b
  | [], [] => []
termination_by a b => a.length + b.length
/-- What stands at a path, or nothing. -/
structure At where
  text : ByteArray
  is : Bool
deriving DecidableEq
def ofF (t : List Fl) (p : ByteArray) : At := match getF t p with | some s => ⟨s, true⟩ | none => ⟨ByteArray.empty, false⟩
def bothB (o a b : At) : At × Bool :=
  if a.is = false then (b, true) else if b.is = false then (a, true)
  else if 65536 < (textOf o.text a.text b.text).1.size then (⟨maxS a.text b.text, true⟩, true)
  else (⟨(textOf o.text a.text b.text).1, true⟩, decide (0 < (textOf o.text a.text b.text).2))
def oneB (o a b : At) : At × Bool := if a = b ∨ b = o then (a, false) else if a = o then (b, false) else bothB o a b
/-- Trees in the making. -/
def stepTr (o a b : List Fl) (s : List Fl × List ByteArray) (p : ByteArray) : List Fl × List ByteArray :=
  (if (oneB (ofF o p) (ofF a p) (ofF b p)).1.is && decide (s.1.length < 1000) then s.1 ++ [⟨p, (oneB (ofF o p) (ofF a p) (ofF b p)).1.text⟩] else s.1,
   if (oneB (ofF o p) (ofF a p) (ofF b p)).2 then s.2 ++ [p] else s.2)
def treesL (o a b : List Fl) : List Fl × List ByteArray := (pathsL a b).foldl (stepTr o a b) ([], [])

end Go.Proofs.YtekeiieefkgopaaDoor.Ba
