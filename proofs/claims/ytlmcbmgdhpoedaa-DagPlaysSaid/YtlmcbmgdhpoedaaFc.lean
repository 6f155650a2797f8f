/- Lists of ids that rise: what Put and Sorted make; they are what the program's sort and Compact make. -/
import Derived.Test.YtlmcbmgdhpoedaaFb
namespace Go.Proofs.Ytlmcbmgdhpoedaa.Fc
open Go.Proofs.Ytlmcbmgdhpoedaa.Da Go.Proofs.Ytlmcbmgdhpoedaa.Dj Go.Proofs.Ytlmcbmgdhpoedaa.Fa Go.Proofs.Ytlmcbmgdhpoedaa.Fb
set_option linter.unusedVariables false
set_option linter.unusedSimpArgs false

theorem bl_lt : ∀ x y : List UInt8, Op.bytesLess x y = decide (x < y)
  | [], [] => by simp [Op.bytesLess]
  | [], b :: y => by simp [Op.bytesLess]
  | a :: x, [] => by simp [Op.bytesLess]
  | a :: x, b :: y => by
    rw [bl_cons, bl_lt x y]
    by_cases h : a = b
    · subst h
      rw [if_pos rfl, decide_eq_decide, List.cons_lt_cons_iff]
      constructor
      · exact fun h => .inr ⟨rfl, h⟩
      · rintro (h | ⟨_, h⟩)
        · exact absurd h (UInt8.lt_irrefl _)
        · exact h
    · rw [if_neg h, decide_eq_decide, List.cons_lt_cons_iff]
      constructor
      · exact .inl
      · rintro (h2 | ⟨h2, _⟩)
        · exact h2
        · exact absurd h2 h
theorem less_le (a b : Nm) : less a b = !le b a := by
  unfold less le
  rw [ByteArray.toList_eq, ByteArray.toList_eq, bl_lt]
  by_cases h : a.data.toList < b.data.toList
  · rw [decide_eq_true h, decide_eq_false (fun h2 => (List.not_lt.2 h2) h)]; rfl
  · rw [decide_eq_false h, decide_eq_true (List.not_lt.1 h)]; rfl
theorem less_iff {a b : Nm} : less a b = true ↔ le b a = false := by rw [less_le]; simp
theorem le_of_less {a b : Nm} (h : less a b = true) : le a b = true := by
  rcases le_total a b with h1 | h1
  · exact h1
  · rw [less_iff.1 h] at h1; cases h1
theorem less_irrefl (a : Nm) : less a a = false := by rw [less_le, le_refl]; rfl
theorem less_ne {a b : Nm} (h : less a b = true) : a ≠ b := fun e => by subst e; rw [less_irrefl] at h; cases h
theorem less_of_le_ne {a b : Nm} (h : le a b = true) (hn : a ≠ b) : less a b = true := by
  rw [less_iff]
  cases hb : le b a with
  | false => rfl
  | true => exact absurd (le_anti h hb) hn
theorem less_trans {a b c : Nm} (h1 : less a b = true) (h2 : less b c = true) : less a c = true := by
  refine less_of_le_ne (le_trans (le_of_less h1) (le_of_less h2)) (fun e => ?_)
  subst e
  have := le_of_less h1
  rw [less_iff] at h2
  rw [h2] at this; cases this
theorem less_tri {a b : Nm} (h1 : less a b = false) (h2 : a ≠ b) : less b a = true := by
  rw [less_le] at h1
  have hba : le b a = true := by simpa using h1
  exact less_of_le_ne hba (fun e => h2 e.symm)

/-- It rises. -/
def SS (l : List Nm) : Prop := l.Pairwise (fun a b => less a b = true)
theorem SS.nodup {l : List Nm} (h : SS l) : l.Nodup := h.imp (fun h => less_ne h)
theorem ss_ext {l m : List Nm} (hl : SS l) (hm : SS m) (h : ∀ x, x ∈ l ↔ x ∈ m) : l = m :=
  sorted_unique (hl.imp (fun h => le_of_less h)) (hm.imp (fun h => le_of_less h)) ((List.perm_ext_iff_of_nodup hl.nodup hm.nodup).2 h)
theorem uniqP_ss (l : List Nm) : ∀ p : Option Nm, l.Pairwise (fun a b => le a b = true) → (∀ q, p = some q → ∀ y ∈ l, le q y = true) →
    SS (uniqP p l) ∧ ∀ q, p = some q → ∀ y ∈ uniqP p l, less q y = true := by
  induction l with
  | nil => intro p _ _; simp [uniqP, SS]
  | cons y r ih =>
    intro p hs hp
    rw [List.pairwise_cons] at hs
    unfold uniqP
    split
    · rename_i he
      exact ih p hs.2 (fun q hq z hz => by
        rw [he] at hq
        cases hq
        exact hs.1 z hz)
    · rename_i he
      obtain ⟨h1, h2⟩ := ih (some y) hs.2 (fun q hq z hz => by cases hq; exact hs.1 z hz)
      refine ⟨List.pairwise_cons.2 ⟨fun z hz => h2 y rfl z hz, h1⟩, fun q hq z hz => ?_⟩
      have hqy : less q y = true := less_of_le_ne (hp q hq y (List.mem_cons_self ..)) (fun e => he (by rw [hq, e]))
      rcases List.mem_cons.1 hz with rfl | hz
      · exact hqy
      · exact less_trans hqy (h2 y rfl z hz)
theorem own_ss (ps : List Nm) : SS (uniq (srt ps)) := (uniqP_ss (srt ps) none (srt_sorted ps) (fun q h => by cases h)).1
theorem srt_ss {l : List Nm} (h : l.Nodup) : SS (srt l) := by
  have h1 := srt_sorted l
  have h2 : (srt l).Nodup := (srt_perm l).nodup_iff.2 h
  exact (h1.and h2).imp (fun h => less_of_le_ne h.1 h.2)

/-- One more, in its place. -/
def insS (x : Nm) : List Nm → List Nm
  | [] => [x]
  | y :: r => if y = x then y :: r else if less x y then x :: y :: r else y :: insS x r
theorem putG_done (x : Nm) (r : List Nm) : ∀ o : List Nm, r.foldl (putStep x) (o, true) = (o ++ r, true) := by
  induction r with
  | nil => intro o; simp
  | cons y r ih =>
    intro o
    rw [List.foldl_cons]
    have : putStep x (o, true) y = (o ++ [y], true) := by unfold putStep; simp
    rw [this, ih]
    simp
theorem putG_ins (x : Nm) (r : List Nm) : ∀ o : List Nm, (if (r.foldl (putStep x) (o, false)).2 then (r.foldl (putStep x) (o, false)).1 else (r.foldl (putStep x) (o, false)).1 ++ [x]) = o ++ insS x r := by
  induction r with
  | nil => intro o; simp [insS]
  | cons y r ih =>
    intro o
    rw [List.foldl_cons]
    unfold insS
    by_cases he : y = x
    · have : putStep x (o, false) y = (o ++ [y], true) := by unfold putStep; simp [he]
      rw [this, putG_done, if_pos he]
      simp
    · by_cases hl : less x y = true
      · have : putStep x (o, false) y = (o ++ [x] ++ [y], true) := by unfold putStep; simp [he, hl]
        rw [this, putG_done, if_neg he, if_pos hl]
        simp
      · have : putStep x (o, false) y = (o ++ [y], false) := by unfold putStep; simp [he, hl]
        rw [this, ih, if_neg he, if_neg hl]
        simp
theorem putR_ins (l : List Nm) (x : Nm) : putR l x = insS x l := by
  have := putG_ins x l []
  unfold putR putG
  rw [this]; rfl
theorem mem_insS {x z : Nm} (l : List Nm) : z ∈ insS x l ↔ (z = x ∨ z ∈ l) := by
  induction l with
  | nil => simp [insS]
  | cons y r ih =>
    unfold insS
    split
    · rename_i he
      subst he
      constructor
      · exact .inr
      · rintro (rfl | h)
        · exact List.mem_cons_self ..
        · exact h
    · split
      · exact List.mem_cons
      · rw [List.mem_cons, ih, List.mem_cons]
        constructor
        · rintro (h | h | h)
          · exact .inr (.inl h)
          · exact .inl h
          · exact .inr (.inr h)
        · rintro (h | h | h)
          · exact .inr (.inl h)
          · exact .inl h
          · exact .inr (.inr h)
theorem insS_ss {x : Nm} {l : List Nm} (h : SS l) : SS (insS x l) := by
  induction l with
  | nil => simp [insS, SS]
  | cons y r ih =>
    have h' := List.pairwise_cons.1 h
    unfold insS
    split
    · exact h
    · rename_i hne
      split
      · rename_i hl
        exact List.pairwise_cons.2 ⟨fun z hz => by
          rcases List.mem_cons.1 hz with rfl | hz
          · exact hl
          · exact less_trans hl (h'.1 z hz), h⟩
      · rename_i hl
        refine List.pairwise_cons.2 ⟨fun z hz => ?_, ih h'.2⟩
        rcases (mem_insS r).1 hz with rfl | hz
        · exact less_tri (by simpa using hl) (fun e => hne e.symm)
        · exact h'.1 z hz
theorem mem_putR {x z : Nm} (l : List Nm) : z ∈ putR l x ↔ (z = x ∨ z ∈ l) := by rw [putR_ins]; exact mem_insS l
theorem putR_ss {x : Nm} {l : List Nm} (h : SS l) : SS (putR l x) := by rw [putR_ins]; exact insS_ss h
/-- Put, one by one. -/
def putAll (acc l : List Nm) : List Nm := l.foldl putR acc
theorem mem_putAll {z : Nm} (l : List Nm) : ∀ acc, z ∈ putAll acc l ↔ (z ∈ acc ∨ z ∈ l) := by
  induction l with
  | nil => intro acc; simp [putAll]
  | cons y r ih =>
    intro acc
    show z ∈ putAll (putR acc y) r ↔ _
    rw [ih, mem_putR, List.mem_cons]
    constructor
    · rintro ((h | h) | h)
      · exact .inr (.inl h)
      · exact .inl h
      · exact .inr (.inr h)
    · rintro (h | h | h)
      · exact .inl (.inr h)
      · exact .inl (.inl h)
      · exact .inr h
theorem putAll_ss (l : List Nm) : ∀ acc, SS acc → SS (putAll acc l) := by
  induction l with
  | nil => exact fun acc h => h
  | cons y r ih => exact fun acc h => ih _ (putR_ss h)
/-- Sorted, each once: alike on both sides. -/
theorem sorted_alike (ps : List Nm) : putAll [] ps = uniq (srt ps) := by
  refine ss_ext (putAll_ss ps [] (by simp [SS])) (own_ss ps) (fun x => ?_)
  rw [mem_putAll, mem_uniq, mem_srt]
  simp
end Go.Proofs.Ytlmcbmgdhpoedaa.Fc
