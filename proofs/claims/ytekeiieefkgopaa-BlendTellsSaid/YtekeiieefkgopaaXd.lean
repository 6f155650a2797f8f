/- The document's answers: binary, joined, closed. The document's answers: a line with its end; marks. A text's lines, byte by byte (plain). The document's answer: a text's lines. Marks that are brought together, turn by turn, are alike just where one leads to the other. A cluster by the sweep is what its first edit leads to. -/
import Derived.Test.YtekeiieefkgopaaNq
import Derived.Laws.Concat
import Derived.BigQuiet
import Derived.Test.YtekeiieefkgopaaAa
import Derived.Test.YtekeiieefkgopaaXb
namespace Go.Proofs.Ytekeiieefkgopaa.Qa
open Go.RowKit Go.Proofs.Ytekeiieefkgopaa.Aa Go.Proofs.Ytekeiieefkgopaa.Vw Go.Proofs.Ytekeiieefkgopaa.Ma Go.Proofs.Ytekeiieefkgopaa.Mb Go.Proofs.Ytekeiieefkgopaa.Na Go.Proofs.Ytekeiieefkgopaa.No Go.Proofs.Ytekeiieefkgopaa.Np Go.Proofs.Ytekeiieefkgopaa.Nq
set_option linter.unusedVariables false
set_option linter.unusedSimpArgs false

theorem idx_mem (l : List UInt8) (c : UInt8) : 0 ≤ Lib.indexByte l c ↔ c ∈ l := by
  induction l with
  | nil => simp [Lib.indexByte]
  | cons b l ih =>
    have hge := Lib.indexByte_ge l c
    simp only [Lib.indexByte]
    by_cases h : b = c
    · subst h; simp
    · have h2 : (b == c) = false := by rw [beq_eq_false_iff_ne]; exact h
      rw [h2]
      simp only [Bool.false_eq_true, if_false, List.mem_cons]
      by_cases h3 : Lib.indexByte l c = -1
      · rw [h3]
        constructor
        · intro hh; simp at hh
        · rintro (rfl | hm)
          · exact absurd rfl h
          · have := ih.2 hm; omega
      · have h4 : (Lib.indexByte l c == -1) = false := by rw [beq_eq_false_iff_ne]; exact h3
        rw [h4]
        simp only [Bool.false_eq_true, if_false]
        constructor
        · intro _; exact .inr (ih.1 (by omega))
        · intro _; omega

set_option maxRecDepth 100000 in
set_option maxHeartbeats 4000000 in
theorem refBinary_of (s : ByteArray) (w : World) (hs : s.size ≤ 9223372036854775806) :
    Calls Try.prog 29 #[.string s] w fun e w' => e = .returned (.bool (binB s)) ∧ w = w' := by
  go_enter Try.func29, Try.ntmps29
  go_wp2_with fail
  go_loopw [3] (fun i wr => ∃ k : Nat, k ≤ s.size ∧ i = .int .i64 k ∧ Hid (∀ j (h : j < s.size), j < k → s[j] ≠ 0) ∧ w = wr) (fun i _ => s.size - (intOf i).toNat)
  case atStart => exact ⟨0, by omega, rfl, Lib.hid (fun j h h' => by omega), rfl⟩
  case round =>
    obtain ⟨k, hk, rfl, HN, rfl⟩ := hrel
    by_cases hlt : k < s.size
    · by_cases h0 : s[k] = 0
      · have hb : ((s[k].toNat : Int) == 0) = true := by rw [h0]; rfl
        have hm : binB s = true := by
          unfold binB
          rw [decide_eq_true_eq, idx_mem]
          have hk2 : s.data.toList[k]'(by simpa using hlt) = 0 := h0
          rw [← hk2]
          exact List.getElem_mem _
        have HM := Lib.hid hm
        clear hm
        go_wp2_with fail
        go_ret
        exact ⟨by rw [HM.out]; rfl, rfl⟩
      · have hb : ((s[k].toNat : Int) == 0) = false := by
          rw [beq_eq_false_iff_ne]; intro h; exact h0 (UInt8.toNat_inj.1 (by have : (0 : UInt8).toNat = 0 := rfl; omega))
        have HN2 : Hid (∀ j (h : j < s.size), j < k + 1 → s[j] ≠ 0) := Lib.hid (fun j h h' => by
          by_cases e : j = k
          · subst e; exact h0
          · exact HN.out j h (by omega))
        clear h0
        go_wp2_with fail
        go_roundw
        case rel => exact ⟨k + 1, by omega, by go_num, HN2, trivial⟩
        case measure => simp [intOf]; omega
    · have hm : binB s = false := by
        unfold binB
        rw [decide_eq_false_iff_not, idx_mem]
        intro hm
        obtain ⟨j, hj, e⟩ := List.getElem_of_mem hm
        have hj2 : j < s.size := by simpa using hj
        exact HN.out j hj2 (by omega) e
      have HM := Lib.hid hm
      clear hm
      go_wp2_with fail
      go_ret
      exact ⟨by rw [HM.out]; rfl, rfl⟩

theorem joinS_append (l m : List ByteArray) : joinS (l ++ m) = joinS l ++ joinS m := by
  apply ByteArray.ext
  apply Array.toList_inj.1
  simp [joinS, List.flatMap_append]
theorem joinS_one (x : ByteArray) : joinS [x] = x := by
  apply ByteArray.ext
  apply Array.toList_inj.1
  simp [joinS]
theorem joinS_next (xs : List ByteArray) (k : Nat) (h : k < xs.length) : joinS (xs.take (k + 1)) = joinS (xs.take k) ++ xs[k] := by
  rw [List.take_succ_eq_append_getElem h, joinS_append, joinS_one]
theorem joinS_le (xs : List ByteArray) (k : Nat) : (joinS (xs.take k)).size ≤ (joinS xs).size := by
  have e : joinS xs = joinS (xs.take k) ++ joinS (xs.drop k) := by rw [← joinS_append, List.take_append_drop]
  rw [e, ByteArray.size_append]
  omega
set_option maxRecDepth 100000 in
set_option maxHeartbeats 4000000 in
theorem refJoin_of (A : Option Addr) (c : Nat) (xs : List ByteArray) (w : World) (hx : El.str.Row w A c xs) (hs : (joinS xs).size ≤ 8000000) :
    Calls Try.prog 32 #[.slice A xs.length c] w fun e w' => e = .returned (.string (joinS xs)) ∧ w = w' := by
  have hl := hx.len
  have HX := Lib.hid hx
  clear hx
  go_enter Try.func32, Try.ntmps32
  go_wp2_with fail
  go_loopw [3, 4] (fun s i wr => ∃ (k : Nat) (t : ByteArray), k ≤ xs.length ∧ i = .int .i64 k ∧ s = .string t ∧ Hid (t = joinS (xs.take k)) ∧ w = wr) (fun s i _ => xs.length - (intOf i).toNat)
  case atStart => exact ⟨0, ⟨#[]⟩, by omega, rfl, rfl, Lib.hid rfl, rfl⟩
  case round =>
    obtain ⟨k, t, hk, rfl, rfl, HT, rfl⟩ := hrel
    by_cases hlt : k < xs.length
    · obtain ⟨a, rfl, hca⟩ := HX.out.flat_at k hlt
      have hle := joinS_le xs (k + 1)
      rw [joinS_next xs k hlt, ByteArray.size_append, ← HT.out] at hle
      have hadd := run_string_add (P := Try.prog) w t xs[k] (by omega) (by omega)
      have HN : Hid (t ++ xs[k] = joinS (xs.take (k + 1))) := Lib.hid (by rw [joinS_next xs k hlt, ← HT.out])
      obtain ⟨t2, ht2⟩ : ∃ t2, t ++ xs[k] = t2 := ⟨_, rfl⟩
      rw [ht2] at hadd HN
      clear hle ht2
      go_wp2_with fail
      go_roundw
      case rel => exact ⟨k + 1, t2, by omega, by go_num, rfl, HN, trivial⟩
      case measure => simp [intOf]; omega
    · have HJ : Hid (t = joinS xs) := Lib.hid (by rw [HT.out, List.take_of_length_le (by omega)])
      go_wp2_with fail
      go_ret
      exact ⟨by rw [← HJ.out]; rfl, rfl⟩
end Go.Proofs.Ytekeiieefkgopaa.Qa
namespace Go.Proofs.Ytekeiieefkgopaa.Qb
open Go.RowKit Go.Proofs.Ytekeiieefkgopaa.Aa Go.Proofs.Ytekeiieefkgopaa.Vw Go.Proofs.Ytekeiieefkgopaa.Ma Go.Proofs.Ytekeiieefkgopaa.Mb Go.Proofs.Ytekeiieefkgopaa.Na Go.Proofs.Ytekeiieefkgopaa.No Go.Proofs.Ytekeiieefkgopaa.Np Go.Proofs.Ytekeiieefkgopaa.Nq Go.Proofs.Ytekeiieefkgopaa.Qa
set_option linter.unusedVariables false
set_option linter.unusedSimpArgs false

theorem endNl_last (s : ByteArray) (m : Nat) (h : s.size = m + 1) : endNl s = decide (s[m]'(by omega) = 10) := by
  unfold endNl
  rw [ByteArray.toList_eq, List.getLast?_eq_getElem?]
  have hl : s.data.toList.length = s.size := by rw [Array.length_toList]; rfl
  have hg : s.data.toList[s.size - 1]? = some (s[m]'(by omega)) := by
    have e : s.size - 1 = m := by omega
    rw [e, List.getElem?_eq_getElem (by rw [hl]; omega)]
    rfl
  rw [hl, hg]
  rw [Bool.eq_iff_iff]
  simp

set_option maxRecDepth 100000 in
set_option maxHeartbeats 4000000 in
theorem refClosed_of (s : ByteArray) (w : World) (hs : s.size ≤ 9223372036854775806) :
    Calls Try.prog 42 #[.string s] w fun e w' => e = .returned (.string (closeL s)) ∧ w = w' := by
  have h1 : (⟨#[10]⟩ : ByteArray).size = 1 := rfl
  have hadd := run_string_add_sum (P := Try.prog) w s ⟨#[10]⟩ (by omega)
  obtain ⟨t, ht⟩ : ∃ t, s ++ (⟨#[10]⟩ : ByteArray) = t := ⟨_, rfl⟩
  rw [ht] at hadd
  by_cases h0 : s.size = 0
  · have HC : Hid (closeL s = t) := Lib.hid (by
      have e : s = ByteArray.empty := ByteArray.ext (Array.eq_empty_of_size_eq_zero h0)
      have e2 : endNl s = false := by
        rw [e]
        unfold endNl
        rw [ByteArray.toList_eq]
        rfl
      unfold closeL
      rw [← ht, e2]
      rfl)
    have hz : ((s.size : Int) == 0) = true := by rw [h0]; rfl
    clear h0 ht h1
    go_enter Try.func42, Try.ntmps42
    go_wp2_with fail
    go_ret
    exact ⟨by rw [HC.out]; rfl, rfl⟩
  · obtain ⟨m, hm⟩ : ∃ m, s.size = m + 1 := ⟨s.size - 1, by omega⟩
    have hlt : m < s.size := by omega
    have he := endNl_last s m hm
    have hz : ((s.size : Int) == 0) = false := by rw [beq_eq_false_iff_ne]; omega
    have hi : (s.size : Int) - 1 = (m : Int) := by omega
    by_cases h10 : s[m] = 10
    · have HC : Hid (closeL s = s) := Lib.hid (by unfold closeL; rw [he, decide_eq_true h10]; rfl)
      have hb : ((s[m].toNat : Int) != 10) = false := by rw [h10]; rfl
      clear he h10 ht h1 h0 hm
      go_enter Try.func42, Try.ntmps42
      go_wp2_with fail
      go_ret
      exact ⟨by rw [HC.out]; rfl, rfl⟩
    · have HC : Hid (closeL s = t) := Lib.hid (by unfold closeL; rw [he, decide_eq_false h10, ← ht]; rfl)
      have hb : ((s[m].toNat : Int) != 10) = true := by
        rw [bne_iff_ne]; intro h; exact h10 (UInt8.toNat_inj.1 (by have : (10 : UInt8).toNat = 10 := rfl; omega))
      clear he h10 ht h1 h0 hm
      go_enter Try.func42, Try.ntmps42
      go_wp2_with fail
      go_ret
      exact ⟨by rw [HC.out]; rfl, rfl⟩
def repB (k : Nat) (c : UInt8) : ByteArray := ⟨(List.replicate k c).toArray⟩
theorem repB_size (k : Nat) (c : UInt8) : (repB k c).size = k := by simp [repB, ByteArray.size]
theorem repB_next (k : Nat) (c : UInt8) : repB k c ++ ⟨#[c]⟩ = repB (k + 1) c := by
  apply ByteArray.ext
  apply Array.toList_inj.1
  simp [repB, Array.replicate_succ]
set_option maxRecDepth 100000 in
set_option maxHeartbeats 4000000 in
theorem refMark_of (c : UInt8) (w : World) (h10 : c ≠ 10) :
    Calls Try.prog 41 #[.string ⟨#[c]⟩] w fun e w' => e = .returned (.string ⟨#[c, c, c, c, c, c, c, 10]⟩) ∧ w = w' := by
  have h1 : (⟨#[c]⟩ : ByteArray).size = 1 := rfl
  have HC : Hid (closeL (repB 7 c) = ⟨#[c, c, c, c, c, c, c, 10]⟩) := Lib.hid (by
    unfold closeL
    rw [endNl_last (repB 7 c) 6 (repB_size 7 c), decide_eq_false (show ¬ ((repB 7 c)[6]'(by rw [repB_size]; omega) = 10) from h10)]
    rfl)
  clear h10
  obtain ⟨sg, hsg⟩ : ∃ sg : ByteArray, (⟨#[c]⟩ : ByteArray) = sg := ⟨_, rfl⟩
  have HN : Hid (∀ k, repB k c ++ sg = repB (k + 1) c) := Lib.hid (by rw [← hsg]; exact fun k => repB_next k c)
  rw [hsg] at h1 ⊢
  clear hsg
  go_enter Try.func41, Try.ntmps41
  go_wp2_with fail
  go_loopw [3, 4] (fun s i wr => ∃ k : Nat, k ≤ 7 ∧ i = .int .i64 k ∧ s = .string (repB k c) ∧ w = wr) (fun s i _ => 7 - (intOf i).toNat)
  case atStart => exact ⟨0, by omega, rfl, rfl, rfl⟩
  case round =>
    obtain ⟨k, hk, rfl, rfl, rfl⟩ := hrel
    by_cases hlt : k < 7
    · have hlt2 : (k : Int) < 7 := by omega
      have hz := repB_size k c
      have hadd := run_string_add (P := Try.prog) w (repB k c) sg (by omega) (by omega)
      rw [HN.out k] at hadd
      clear hz
      go_wp2_with fail
      go_roundw
      case rel => exact ⟨k + 1, by omega, by go_num, rfl, trivial⟩
      case measure => simp [intOf]; omega
    · obtain rfl : k = 7 := by omega
      have hz := repB_size 7 c
      go_wp2_with fail
      refine (refClosed_of (repB 7 c) w (by omega)).mono ?_
      rintro e w' ⟨rfl, rfl⟩
      rw [HC.out]
      go_wp2_with fail
      go_ret
      exact ⟨rfl, rfl⟩
end Go.Proofs.Ytekeiieefkgopaa.Qb
namespace Go.Proofs.Ytekeiieefkgopaa.Qc
open Go Go.Proofs.Ytekeiieefkgopaa.No Go.Proofs.Ytekeiieefkgopaa.Qa
set_option linter.unusedVariables false
set_option linter.unusedSimpArgs false

/-- Lines of bytes. -/
def spl : List UInt8 → List (List UInt8)
  | [] => []
  | b :: l => if b = 10 then [10] :: spl l else match spl l with
    | [] => [[b]]
    | x :: r => (b :: x) :: r
/-- The last line, a byte longer. -/
def ext (b : UInt8) : List (List UInt8) → List (List UInt8)
  | [] => []
  | [x] => [x ++ [b]]
  | x :: y :: r => x :: ext b (y :: r)
/-- Is the last line open? -/
def openB : List UInt8 → Bool
  | [] => false
  | [b] => decide (b ≠ 10)
  | _ :: b :: l => openB (b :: l)
theorem spl_cons_ne (l : List UInt8) (h : l ≠ []) : spl l ≠ [] := by
  cases l with
  | nil => exact absurd rfl h
  | cons b l =>
    simp only [spl]
    split
    · simp
    · split <;> simp
theorem spl_snoc (pre : List UInt8) (b : UInt8) : spl (pre ++ [b]) = if openB pre then ext b (spl pre) else spl pre ++ [[b]] := by
  induction pre with
  | nil =>
    simp only [List.nil_append, openB, spl]
    by_cases h : b = 10
    · subst h; simp
    · simp [h]
  | cons a l ih =>
    cases l with
    | nil =>
      simp only [List.nil_append, List.cons_append, openB, spl]
      by_cases h : a = 10
      · subst h
        by_cases h2 : b = 10
        · subst h2; simp
        · simp [h2]
      · by_cases h2 : b = 10
        · subst h2; simp [h, ext]
        · simp [h, h2, ext]
    | cons c l =>
      have hne := spl_cons_ne (c :: l) (by simp)
      have e : openB (a :: c :: l) = openB (c :: l) := rfl
      have e2 : (a :: c :: l) ++ [b] = a :: ((c :: l) ++ [b]) := rfl
      rw [e, e2]
      show (if a = 10 then [10] :: spl ((c :: l) ++ [b]) else match spl ((c :: l) ++ [b]) with
        | [] => [[a]]
        | x :: r => (a :: x) :: r) = _
      rw [ih]
      have e3 : spl (a :: c :: l) = if a = 10 then [10] :: spl (c :: l) else match spl (c :: l) with
        | [] => [[a]]
        | x :: r => (a :: x) :: r := rfl
      rw [e3]
      generalize spl (c :: l) = L at *
      cases L with
      | nil => exact absurd rfl hne
      | cons x r =>
        cases hO : openB (c :: l) with
        | false =>
          simp only [Bool.false_eq_true, if_false]
          by_cases h : a = 10
          · rw [if_pos h, if_pos h]; rfl
          · rw [if_neg h, if_neg h]; rfl
        | true =>
          simp only [if_true]
          by_cases h : a = 10
          · rw [if_pos h, if_pos h]; rfl
          · rw [if_neg h, if_neg h]
            cases r with
            | nil => rfl
            | cons y r => rfl
/-- Where the first line ends. -/
def nlL (l : List UInt8) : Nat := if 0 ≤ Lib.indexByte l 10 then (Lib.indexByte l 10).toNat + 1 else l.length
theorem nlL_ten (l : List UInt8) : nlL (10 :: l) = 1 := by simp [nlL, Lib.indexByte]
theorem nlL_next (b : UInt8) (l : List UInt8) (h : b ≠ 10) : nlL (b :: l) = nlL l + 1 := by
  have hge := Lib.indexByte_ge l 10
  have h2 : (b == 10) = false := by rw [beq_eq_false_iff_ne]; exact h
  unfold nlL
  simp only [Lib.indexByte, h2, Bool.false_eq_true, if_false]
  by_cases h3 : Lib.indexByte l 10 = -1
  · rw [h3]; simp
  · have h4 : (Lib.indexByte l 10 == -1) = false := by rw [beq_eq_false_iff_ne]; exact h3
    rw [h4]
    simp only [Bool.false_eq_true, if_false]
    rw [if_pos (by omega), if_pos (by omega)]
    omega
theorem spl_cut (l : List UInt8) (h : l ≠ []) : spl l = l.take (nlL l) :: spl (l.drop (nlL l)) := by
  induction l with
  | nil => exact absurd rfl h
  | cons b l ih =>
    by_cases hb : b = 10
    · subst hb
      rw [nlL_ten]
      simp [spl]
    · rw [nlL_next b l hb]
      simp only [List.take_succ_cons, List.drop_succ_cons]
      cases l with
      | nil => simp [spl, hb, nlL]
      | cons c l =>
        have := ih (by simp)
        have e3 : spl (b :: c :: l) = if b = 10 then [10] :: spl (c :: l) else match spl (c :: l) with
          | [] => [[b]]
          | x :: r => (b :: x) :: r := rfl
        rw [e3, if_neg hb, this]
theorem split_spl (n : Nat) (s : ByteArray) (h : s.size ≤ n) : splitN n s = (spl s.data.toList).map fun l => ⟨l.toArray⟩ := by
  induction n generalizing s with
  | zero =>
    have : s.data.toList = [] := by
      apply List.eq_nil_of_length_eq_zero
      have hl : s.data.toList.length = s.size := by rw [Array.length_toList]; rfl
      omega
    rw [this]
    rfl
  | succ n ih =>
    have hl : s.data.toList.length = s.size := by rw [Array.length_toList]; rfl
    simp only [splitN]
    by_cases h0 : s.size = 0
    · rw [if_pos h0]
      have : s.data.toList = [] := List.eq_nil_of_length_eq_zero (by omega)
      rw [this]
      rfl
    · rw [if_neg h0]
      have hne : s.data.toList ≠ [] := fun e => by rw [e] at hl; simp at hl; omega
      have hn : nlAt s = nlL s.data.toList := by unfold nlAt nlL; rw [hl]
      have hp := nlAt_pos s h0
      have hle := nlAt_le s
      rw [ih _ (by rw [ByteArray.size_extract]; omega), spl_cut _ hne, List.map_cons, ← hn]
      congr 1
      · apply ByteArray.ext
        apply Array.toList_inj.1
        simp
      · congr 2
        simp [List.take_of_length_le]
end Go.Proofs.Ytekeiieefkgopaa.Qc
namespace Go.Proofs.Ytekeiieefkgopaa.Qd
open Go Go.RowKit Go.Proofs.Ytekeiieefkgopaa.Aa Go.Proofs.Ytekeiieefkgopaa.Vw Go.Proofs.Ytekeiieefkgopaa.Ma Go.Proofs.Ytekeiieefkgopaa.Mb Go.Proofs.Ytekeiieefkgopaa.No Go.Proofs.Ytekeiieefkgopaa.Qc
set_option linter.unusedVariables false
set_option linter.unusedSimpArgs false

/-- Lines of bytes, as texts. -/
def linesB (l : List UInt8) : List ByteArray := (spl l).map fun x => ⟨x.toArray⟩
theorem split_lines (s : ByteArray) : splitS s = linesB s.data.toList := split_spl s.size s (Nat.le_refl _)
theorem linesB_new (pre : List UInt8) (b : UInt8) (h : openB pre = false) : linesB (pre ++ [b]) = linesB pre ++ [⟨#[b]⟩] := by
  unfold linesB
  rw [spl_snoc, h]
  simp
theorem ext_map (b : UInt8) : ∀ (L : List (List UInt8)) (p : Nat) (h : L.length = p + 1), ((ext b L).map fun x => (⟨x.toArray⟩ : ByteArray)) = (L.map fun x => (⟨x.toArray⟩ : ByteArray)).set p ((⟨(L[p]'(by omega)).toArray⟩ : ByteArray) ++ ⟨#[b]⟩)
  | [], p, h => by simp at h
  | [x], p, h => by
    obtain rfl : p = 0 := by simpa using h.symm
    simp only [ext, List.map_cons, List.map_nil, List.getElem_cons_zero, List.set_cons_zero]
    congr 1
  | x :: y :: r, p, h => by
    obtain ⟨p, rfl⟩ : ∃ k, p = k + 1 := ⟨p - 1, by simp at h; omega⟩
    have ih := ext_map b (y :: r) p (by simpa using h)
    have e : ext b (x :: y :: r) = x :: ext b (y :: r) := rfl
    rw [e, List.map_cons, ih]
    rfl
theorem linesB_ext (pre : List UInt8) (b : UInt8) (p : Nat) (h : openB pre = true) (hp : (linesB pre).length = p + 1) : linesB (pre ++ [b]) = (linesB pre).set p ((linesB pre)[p]'(by omega) ++ ⟨#[b]⟩) := by
  have hp2 : (spl pre).length = p + 1 := by unfold linesB at hp; simpa using hp
  have := ext_map b (spl pre) p hp2
  unfold linesB
  rw [spl_snoc, h, if_pos rfl, this]
  simp
theorem spl_len (l : List UInt8) : (spl l).length ≤ l.length ∧ ∀ x ∈ spl l, x.length ≤ l.length := by
  induction l with
  | nil => simp [spl]
  | cons b l ih =>
    simp only [spl]
    split
    · refine ⟨by simpa using ih.1, fun x hx => ?_⟩
      rcases List.mem_cons.1 hx with rfl | hx
      · simp
      · have := ih.2 x hx; simp; omega
    · split
      · refine ⟨by simp, fun x hx => ?_⟩
        simp at hx; subst hx; simp
      · rename_i x r hr
        rw [hr] at ih
        refine ⟨by have := ih.1; simp at this ⊢; omega, fun z hz => ?_⟩
        rcases List.mem_cons.1 hz with rfl | hz
        · have := ih.2 x (List.mem_cons_self ..); simp; omega
        · have := ih.2 z (List.mem_cons_of_mem _ hz); simp; omega
theorem open_snoc (pre : List UInt8) (b : UInt8) : openB (pre ++ [b]) = decide (b ≠ 10) := by
  induction pre with
  | nil => rfl
  | cons a l ih =>
    cases l with
    | nil => rfl
    | cons c l => exact ih
end Go.Proofs.Ytekeiieefkgopaa.Qd
namespace Go.Proofs.Ytekeiieefkgopaa.Qm
set_option linter.unusedVariables false

/-- One leads to the other, by pairs that meet. -/
def Conn (n : Nat) (M : Nat → Nat → Bool) (i j : Nat) : Prop := ∀ S : Nat → Prop, (∀ a b, a < n → b < n → M a b = true → (S a ↔ S b)) → (S i ↔ S j)
theorem Conn.refl {n : Nat} {M : Nat → Nat → Bool} (i : Nat) : Conn n M i i := fun _ _ => Iff.rfl
theorem Conn.symm {n : Nat} {M : Nat → Nat → Bool} {i j : Nat} (h : Conn n M i j) : Conn n M j i := fun S hS => (h S hS).symm
theorem Conn.trans {n : Nat} {M : Nat → Nat → Bool} {i j k : Nat} (h : Conn n M i j) (h' : Conn n M j k) : Conn n M i k := fun S hS => (h S hS).trans (h' S hS)
theorem Conn.one {n : Nat} {M : Nat → Nat → Bool} {i j : Nat} (hi : i < n) (hj : j < n) (h : M i j = true) : Conn n M i j := fun S hS => hS i j hi hj h

def upd (f : Nat → Nat) (i v : Nat) : Nat → Nat := fun a => if a = i then v else f a
/-- A turn, up to a pair. -/
structure Turn (n : Nat) (M : Nat → Nat → Bool) (f0 f : Nat → Nat) (i k : Nat) : Prop where
  le : ∀ a, a < n → f a ≤ f0 a
  co : ∀ a, a < n → f a < n ∧ Conn n M a (f a)
  dn : ∀ a b, a < n → b < n → (a < i ∨ a = i ∧ b < k) → M a b = true → f a ≤ f0 b
theorem Turn.yes {n : Nat} {M : Nat → Nat → Bool} {f0 f : Nat → Nat} {i k : Nat} (h : Turn n M f0 f i k) (hi : i < n) (hk : k < n) (hm : M i k = true) : Turn n M f0 (upd f i (min (f i) (f k))) i (k + 1) := by
  refine ⟨fun a ha => ?_, fun a ha => ?_, fun a b ha hb hab hmab => ?_⟩
  · unfold upd; split
    · subst_vars; have := h.le _ ha; omega
    · exact h.le a ha
  · unfold upd; split
    · subst_vars
      by_cases hc : f a ≤ f k
      · rw [Nat.min_eq_left hc]; exact h.co _ ha
      · rw [Nat.min_eq_right (by omega)]; exact ⟨(h.co k hk).1, (Conn.one ha hk hm).trans (h.co k hk).2⟩
    · exact h.co a ha
  · unfold upd; split
    · subst_vars
      by_cases hb' : b < k
      · have := h.dn a b ha hb (.inr ⟨rfl, hb'⟩) hmab; omega
      · have : b = k := by omega
        subst this
        have := h.le b hb; omega
    · rename_i hne
      exact h.dn a b ha hb (by omega) hmab
theorem Turn.no {n : Nat} {M : Nat → Nat → Bool} {f0 f : Nat → Nat} {i k : Nat} (h : Turn n M f0 f i k) (hm : M i k = false) : Turn n M f0 f i (k + 1) := by
  refine ⟨h.le, h.co, fun a b ha hb hab hmab => ?_⟩
  by_cases he : a = i ∧ b = k
  · obtain ⟨rfl, rfl⟩ := he; rw [hm] at hmab; cases hmab
  · exact h.dn a b ha hb (by omega) hmab
theorem Turn.row {n : Nat} {M : Nat → Nat → Bool} {f0 f : Nat → Nat} {i k : Nat} (h : Turn n M f0 f i k) (hk : n ≤ k) : Turn n M f0 f (i + 1) 0 :=
  ⟨h.le, h.co, fun a b ha hb hab hmab => h.dn a b ha hb (by omega) hmab⟩

/-- Behind so many turns. -/
def After (n : Nat) (M : Nat → Nat → Bool) : Nat → (Nat → Nat) → Prop
  | 0, f => ∀ a, a < n → f a = a
  | t + 1, f => ∃ f0, After n M t f0 ∧ Turn n M f0 f n 0
theorem After.co {n : Nat} {M : Nat → Nat → Bool} : ∀ {t : Nat} {f : Nat → Nat}, After n M t f → ∀ a, a < n → f a < n ∧ Conn n M a (f a) ∧ f a ≤ a
  | 0, f, h, a, ha => by rw [h a ha]; exact ⟨ha, Conn.refl a, Nat.le_refl a⟩
  | t + 1, f, ⟨f0, h0, h⟩, a, ha => ⟨(h.co a ha).1, (h.co a ha).2, by have := h.le a ha; have := (After.co h0 a ha).2.2; omega⟩
theorem After.turn {n : Nat} {M : Nat → Nat → Bool} {t : Nat} {f : Nat → Nat} (h : After n M t f) : Turn n M f f 0 0 :=
  ⟨fun _ _ => Nat.le_refl _, fun a ha => ⟨(h.co a ha).1, (h.co a ha).2.1⟩, fun a b _ _ hab => by omega⟩

theorem count_more {α : Type} (p q : α → Bool) : ∀ (l : List α), (∀ x ∈ l, p x = true → q x = true) → (∃ x ∈ l, p x = false ∧ q x = true) → l.countP p + 1 ≤ l.countP q
  | [], _, h => by obtain ⟨x, hx, _⟩ := h; simp at hx
  | a :: l, h, ⟨x, hx, hp, hq⟩ => by
    have hle : ∀ (l : List α), (∀ x ∈ l, p x = true → q x = true) → l.countP p ≤ l.countP q := fun l h => List.countP_mono_left h
    have ht : ∀ x ∈ l, p x = true → q x = true := fun x hx => h x (List.mem_cons_of_mem _ hx)
    rw [List.countP_cons, List.countP_cons]
    by_cases hxa : x = a
    · subst hxa
      have := hle l ht
      simp [hp, hq]; omega
    · have hxl : x ∈ l := (List.mem_cons.1 hx).elim (fun h => absurd h hxa) id
      have ih := count_more p q l ht ⟨x, hxl, hp, hq⟩
      have ha := h a (List.mem_cons_self ..)
      cases hpa : p a with
      | true => simp [ha hpa]; omega
      | false => cases q a <;> simp <;> omega

theorem least (P : Nat → Prop) (i : Nat) (h : P i) : ∃ j, P j ∧ ∀ a, P a → j ≤ a := by
  induction i using Nat.strongRecOn with
  | ind i ih =>
    by_cases hx : ∃ a, a < i ∧ P a
    · obtain ⟨a, ha, hp⟩ := hx; exact ih a ha hp
    · exact ⟨i, h, fun a ha => by
        by_cases h2 : i ≤ a
        · exact h2
        · exact absurd ⟨a, by omega, ha⟩ hx⟩

/-- How many have a mark. -/
def cnt (n j0 : Nat) (f : Nat → Nat) : Nat := (List.range n).countP (fun a => decide (f a = j0))
theorem turn_more {n : Nat} {M : Nat → Nat → Bool} (hsym : ∀ a b, M a b = M b a) {t j0 : Nat} (hj : j0 < n) (hmin : ∀ a, a < n → Conn n M a j0 → j0 ≤ a) {f0 f : Nat → Nat} (h0 : After n M t f0) (h : Turn n M f0 f n 0)
    (ih : (∀ a, a < n → Conn n M a j0 → f0 a = j0) ∨ t + 1 ≤ cnt n j0 f0) : (∀ a, a < n → Conn n M a j0 → f a = j0) ∨ t + 1 + 1 ≤ cnt n j0 f := by
  have hge : ∀ a, a < n → Conn n M a j0 → j0 ≤ f a := fun a ha hc => hmin _ (h.co a ha).1 ((h.co a ha).2.symm.trans hc)
  by_cases hall : ∀ a, a < n → Conn n M a j0 → f0 a = j0
  · exact .inl fun a ha hc => by have := h.le a ha; rw [hall a ha hc] at this; have := hge a ha hc; omega
  · rcases ih with ih | ih
    · exact absurd ih hall
    · right
      have hcl : ∀ a, a < n → f0 a = j0 → Conn n M a j0 := fun a ha e => e ▸ (h0.co a ha).2.1
      have hfx : ∀ a, a < n → f0 a = j0 → f a = j0 := fun a ha e => by have := h.le a ha; have := hge a ha (hcl a ha e); omega
      have hex : ∃ b c, b < n ∧ c < n ∧ M b c = true ∧ f0 b ≠ j0 ∧ f0 c = j0 := by
        by_cases hx : ∃ b c, b < n ∧ c < n ∧ M b c = true ∧ f0 b ≠ j0 ∧ f0 c = j0
        · exact hx
        · exfalso
          apply hall
          intro a ha hc
          have hS := hc (fun x => f0 x = j0) (fun x y hx' hy hm => ⟨fun e => by
            by_cases e2 : f0 y = j0
            · exact e2
            · exact absurd ⟨y, x, hy, hx', by rw [hsym]; exact hm, e2, e⟩ hx, fun e => by
            by_cases e2 : f0 x = j0
            · exact e2
            · exact absurd ⟨x, y, hx', hy, hm, e2, e⟩ hx⟩)
          exact hS.2 (by
            have h1 := (h0.co j0 hj).2.2
            have h2 := hmin _ (h0.co j0 hj).1 (h0.co j0 hj).2.1.symm
            show f0 j0 = j0
            omega)
      obtain ⟨b, c, hb, hc, hm, hfb, hfc⟩ := hex
      have hbj : Conn n M b j0 := (Conn.one hb hc hm).trans (hcl c hc hfc)
      have hfb2 : f b = j0 := by have := h.dn b c hb hc (.inl hb) hm; have := hge b hb hbj; omega
      have := count_more (fun a => decide (f0 a = j0)) (fun a => decide (f a = j0)) (List.range n) (fun x hx hp => by
        simp only [decide_eq_true_eq] at hp ⊢
        exact hfx x (List.mem_range.1 hx) hp) ⟨b, List.mem_range.2 hb, by simpa using hfb, by simpa using hfb2⟩
      unfold cnt at ih ⊢
      omega
theorem after_more {n : Nat} {M : Nat → Nat → Bool} (hsym : ∀ a b, M a b = M b a) {j0 : Nat} (hj : j0 < n) (hmin : ∀ a, a < n → Conn n M a j0 → j0 ≤ a) : ∀ (t : Nat) (f : Nat → Nat), After n M t f → (∀ a, a < n → Conn n M a j0 → f a = j0) ∨ t + 1 ≤ cnt n j0 f
  | 0, f, h => .inr (by
      have : 0 < cnt n j0 f := List.countP_pos_iff.2 ⟨j0, List.mem_range.2 hj, by simpa using h j0 hj⟩
      omega)
  | t + 1, f, ⟨f0, h0, h⟩ => turn_more hsym hj hmin h0 h (after_more hsym hj hmin t f0 h0)
/-- BEHIND AS MANY TURNS AS THERE ARE, marks are alike just where one leads to the other. -/
theorem after_all {n : Nat} {M : Nat → Nat → Bool} (hsym : ∀ a b, M a b = M b a) {f : Nat → Nat} (h : After n M n f) (i j : Nat) (hi : i < n) (hj : j < n) : f i = f j ↔ Conn n M i j := by
  constructor
  · intro e
    exact (h.co i hi).2.1.trans (e ▸ (h.co j hj).2.1.symm)
  · intro hc
    obtain ⟨j0, ⟨h1, h2⟩, h3⟩ := least (fun a => a < n ∧ Conn n M a i) i ⟨hi, Conn.refl i⟩
    rcases after_more hsym h1 (fun a ha hca => h3 a ⟨ha, hca.trans h2⟩) n f h with hx | hx
    · rw [hx i hi h2.symm, hx j hj (hc.symm.trans h2.symm)]
    · have : cnt n j0 f ≤ n := by unfold cnt; have := List.countP_le_length (p := fun a => decide (f a = j0)) (l := List.range n); simpa using this
      omega
end Go.Proofs.Ytekeiieefkgopaa.Qm
namespace Go.Proofs.Ytekeiieefkgopaa.Qn
open Go.Proofs.Ytekeiieefkgopaa.Me Go.Proofs.Ytekeiieefkgopaa.Mf Go.Proofs.Ytekeiieefkgopaa.Mg Go.Proofs.Ytekeiieefkgopaa.Mh Go.Proofs.Ytekeiieefkgopaa.Mi Go.Proofs.Ytekeiieefkgopaa.Na Go.Proofs.Ytekeiieefkgopaa.Nb Go.Proofs.Ytekeiieefkgopaa.Nc Go.Proofs.Ytekeiieefkgopaa.Pa Go.Proofs.Ytekeiieefkgopaa.Ph Go.Proofs.Ytekeiieefkgopaa.Qm
set_option linter.unusedVariables false
set_option linter.unusedSimpArgs false

def Meet (e f : EditP) : Prop := e.at_ ≤ f.at_ + f.del ∧ f.at_ ≤ e.at_ + e.del
theorem fold_swap (f : EditP) : ∀ (T : List EditP) (c : Clu), T.foldl Clu.add0 (Clu.add1 c f) = Clu.add1 (T.foldl Clu.add0 c) f
  | [], c => rfl
  | e :: T, c => by
    rw [List.foldl_cons, List.foldl_cons, ← add_comm, fold_swap f T]
/-- What a cluster takes. -/
structure Took (c c' : Clu) (L R L' R' T0 T1 : List EditP) : Prop where
  l : L = T0 ++ L'
  r : R = T1 ++ R'
  fold : c' = T1.foldl Clu.add1 (T0.foldl Clu.add0 c)
  hl : ∀ e ∈ L'.head?, c'.to_ < e.at_
  hr : ∀ e ∈ R'.head?, c'.to_ < e.at_
  to_ : c.to_ ≤ c'.to_
  en : ∀ e ∈ T0 ++ T1, e.at_ + e.del ≤ c'.to_
  fr : c'.from_ = c.from_
  all : ∀ S : EditP → Prop, (∀ e ∈ L ++ R, c.from_ ≤ e.at_) → (∀ f ∈ L ++ R, ∀ g, S g → Meet f g → S f) → (∀ x, c.from_ ≤ x → x ≤ c.to_ → ∃ g, S g ∧ g.at_ ≤ x ∧ x ≤ g.at_ + g.del) → ∀ e ∈ T0 ++ T1, S e

theorem cover_more {S : EditP → Prop} {c : Clu} {e : EditP} {t : Nat} (hfrom : c.from_ ≤ e.at_) (hto : e.at_ ≤ c.to_) (hS : ∀ g, S g → Meet e g → S e) (hc : ∀ x, c.from_ ≤ x → x ≤ c.to_ → ∃ g, S g ∧ g.at_ ≤ x ∧ x ≤ g.at_ + g.del) (ht : t = max c.to_ (e.at_ + e.del)) :
    S e ∧ ∀ x, c.from_ ≤ x → x ≤ t → ∃ g, S g ∧ g.at_ ≤ x ∧ x ≤ g.at_ + g.del := by
  obtain ⟨g, g1, g2, g3⟩ := hc e.at_ hfrom hto
  have he : S e := hS g g1 ⟨g3, by omega⟩
  refine ⟨he, fun x h1 h2 => ?_⟩
  by_cases hx : x ≤ c.to_
  · exact hc x h1 hx
  · exact ⟨e, he, by omega, by omega⟩
theorem Took.none (c : Clu) (L R : List EditP) (h1 : ∀ e ∈ L.head?, c.to_ < e.at_) (h2 : ∀ e ∈ R.head?, c.to_ < e.at_) : Took c c L R L R [] [] :=
  ⟨rfl, rfl, rfl, h1, h2, Nat.le_refl _, by simp, rfl, by simp⟩
theorem Took.add0 {c c' : Clu} {e : EditP} {L R L' R' T0 T1 : List EditP} (he : e.at_ ≤ c.to_) (h : Took (Clu.add0 c e) c' L R L' R' T0 T1) : Took c c' (e :: L) R L' R' (e :: T0) T1 := by
  refine ⟨by rw [h.l]; rfl, h.r, by rw [h.fold]; rfl, h.hl, h.hr, Nat.le_trans (add0_to c e) h.to_, ?_, h.fr, ?_⟩
  · intro x hx
    rcases List.mem_cons.1 hx with rfl | hx
    · have := h.to_; simp only [Clu.add0, Clu.take0] at this; omega
    · exact h.en x hx
  · intro S h1 h2 h3
    obtain ⟨hs, hc⟩ := cover_more (t := (Clu.add0 c e).to_) (h1 e (List.mem_cons_self ..)) he (h2 e (List.mem_cons_self ..)) h3 rfl
    have := h.all S (fun f hf => h1 f (List.mem_cons_of_mem _ hf)) (fun f hf => h2 f (List.mem_cons_of_mem _ hf)) hc
    intro x hx
    rcases List.mem_cons.1 hx with rfl | hx
    · exact hs
    · exact this x hx
theorem Took.add1 {c c' : Clu} {f : EditP} {L R L' R' T0 T1 : List EditP} (he : f.at_ ≤ c.to_) (h : Took (Clu.add1 c f) c' L R L' R' T0 T1) : Took c c' L (f :: R) L' R' T0 (f :: T1) := by
  refine ⟨h.l, by rw [h.r]; rfl, by rw [h.fold, fold_swap]; rfl, h.hl, h.hr, Nat.le_trans (add1_to c f) h.to_, ?_, h.fr, ?_⟩
  · intro x hx
    have hx2 : x = f ∨ x ∈ T0 ++ T1 := by simp at hx ⊢; rcases hx with h | h | h <;> simp [h]
    rcases hx2 with rfl | hx
    · have := h.to_; simp only [Clu.add1, Clu.take1] at this; omega
    · exact h.en x hx
  · intro S h1 h2 h3
    have hm : f ∈ L ++ f :: R := by simp
    have hmm : ∀ g ∈ L ++ R, g ∈ L ++ f :: R := fun g hg => by simp at hg ⊢; rcases hg with h | h <;> simp [h]
    obtain ⟨hs, hc⟩ := cover_more (t := (Clu.add1 c f).to_) (h1 f hm) he (h2 f hm) h3 rfl
    have := h.all S (fun g hg => h1 g (hmm g hg)) (fun g hg => h2 g (hmm g hg)) hc
    intro x hx
    have hx2 : x = f ∨ x ∈ T0 ++ T1 := by simp at hx ⊢; rcases hx with h | h | h <;> simp [h]
    rcases hx2 with rfl | hx
    · exact hs
    · exact this x hx
theorem meets_took (c : Clu) (L R : List EditP) : ∃ T0 T1, Took c (meets c L R).1 L R (meets c L R).2.1 (meets c L R).2.2 T0 T1 := by
  induction c, L, R using meets.induct with
  | case1 c e l h ih => obtain ⟨T0, T1, ih⟩ := ih; rw [meets, if_pos h]; exact ⟨_, _, ih.add0 h⟩
  | case2 c e l h => rw [meets, if_neg h]; exact ⟨_, _, Took.none _ _ _ (by simp; omega) (by simp)⟩
  | case3 c e l f r h ih => obtain ⟨T0, T1, ih⟩ := ih; rw [meets, if_pos h]; exact ⟨_, _, ih.add0 h⟩
  | case4 c e l f r h h2 ih => obtain ⟨T0, T1, ih⟩ := ih; rw [meets, if_neg h, if_pos h2]; exact ⟨_, _, ih.add1 h2⟩
  | case5 c e l f r h h2 => rw [meets, if_neg h, if_neg h2]; exact ⟨_, _, Took.none _ _ _ (by simp; omega) (by simp; omega)⟩
  | case6 c f r h ih => obtain ⟨T0, T1, ih⟩ := ih; rw [meets, if_pos h]; exact ⟨_, _, ih.add1 h⟩
  | case7 c f r h => rw [meets, if_neg h]; exact ⟨_, _, Took.none _ _ _ (by simp) (by simp; omega)⟩
  | case8 c => rw [meets]; exact ⟨_, _, Took.none _ _ _ (by simp) (by simp)⟩

/-- Places and ends, by number. -/
def atF (es : List EditP) (i : Nat) : Nat := ((es[i]?).map (·.at_)).getD 0
def enF (es : List EditP) (i : Nat) : Nat := ((es[i]?).map (fun e => e.at_ + e.del)).getD 0
def meetB (es : List EditP) (i k : Nat) : Bool := decide (atF es i ≤ enF es k) && decide (atF es k ≤ enF es i)
theorem meet_sym (es : List EditP) (i k : Nat) : meetB es i k = meetB es k i := Bool.and_comm ..
theorem atF_of {es : List EditP} {i : Nat} {e : EditP} (h : es[i]? = some e) : atF es i = e.at_ ∧ enF es i = e.at_ + e.del := by unfold atF enF; rw [h]; exact ⟨rfl, rfl⟩
/-- What was taken; what a cluster takes. -/
def Used (nl p q i : Nat) : Prop := i < p ∨ (nl ≤ i ∧ i < nl + q)
def Clus (nl p q p' q' i : Nat) : Prop := (p ≤ i ∧ i < p') ∨ (nl + q ≤ i ∧ i < nl + q')
/-- All that were taken end ahead of all others. -/
def Sep (es : List EditP) (nl p q : Nat) : Prop := ∀ i k, i < es.length → k < es.length → Used nl p q i → ¬ Used nl p q k → enF es i < atF es k
theorem Sep.start (es : List EditP) (nl : Nat) : Sep es nl 0 0 := fun i k _ _ h _ => by unfold Used at h; omega

theorem apart_drop {l : List EditP} (h : Apart l) {p i : Nat} {e f : EditP} (he : l[p]? = some e) (hf : l[i]? = some f) (hpi : p < i) : e.at_ + e.del < f.at_ := by
  have h1 := List.pairwise_iff_getElem.1 h p i (List.getElem?_eq_some_iff.1 he).1 (List.getElem?_eq_some_iff.1 hf).1 hpi
  rw [(List.getElem?_eq_some_iff.1 he).2, (List.getElem?_eq_some_iff.1 hf).2] at h1
  exact h1
theorem apart_head {l : List EditP} (h : Apart l) {p i t : Nat} {f : EditP} (hh : ∀ e ∈ (l.drop p).head?, t < e.at_) (hf : l[i]? = some f) (hpi : p ≤ i) : t < f.at_ := by
  have hi := (List.getElem?_eq_some_iff.1 hf).1
  have hp : l[p]? = some l[p] := List.getElem?_eq_getElem (by omega)
  have h0 := hh l[p] (by rw [List.head?_drop, hp]; rfl)
  by_cases e : p = i
  · subst e; rw [hp] at hf; injection hf with hf; subst hf; exact h0
  · have := apart_drop h hp hf (by omega); omega
theorem start_le {L R : List EditP} (hL : Apart L) (hR : Apart R) : ∀ e ∈ L ++ R, startAt L R ≤ e.at_ := by
  have key : ∀ (X : List EditP), Apart X → ∀ a X', X = a :: X' → ∀ e ∈ X, a.at_ ≤ e.at_ := by
    rintro X hX a X' rfl e he
    rcases List.mem_cons.1 he with rfl | he
    · exact Nat.le_refl _
    · have := (List.pairwise_cons.1 hX).1 e he; omega
  intro e he
  rcases List.mem_append.1 he with he | he
  · cases L with
    | nil => simp at he
    | cons a l =>
      have := key _ hL a l rfl e he
      cases R with
      | nil => exact this
      | cons b r => simp only [startAt]; split <;> omega
  · cases R with
    | nil => simp at he
    | cons b r =>
      have := key _ hR b r rfl e he
      cases L with
      | nil => exact this
      | cons a l => simp only [startAt]; split <;> omega

/-- A ROUND: the cluster takes just those to which its first edit leads. -/
structure Round (l r : List EditP) (p q p' q' : Nat) (c : Clu) : Prop where
  pp : p ≤ p'
  pl : p' ≤ l.length
  qq : q ≤ q'
  ql : q' ≤ r.length
  eq : firstC (l.drop p) (r.drop q) = (c, l.drop p', r.drop q')
  fold : c = ((r.drop q).take (q' - q)).foldl Clu.add1 (((l.drop p).take (p' - p)).foldl Clu.add0 ⟨startAt (l.drop p) (r.drop q), startAt (l.drop p) (r.drop q), 0, 0, false, false⟩)
  sep : Sep (l ++ r) l.length p' q'
  conn : ∀ f0, f0 < (l ++ r).length → ¬ Used l.length p q f0 → atF (l ++ r) f0 = startAt (l.drop p) (r.drop q) → ∀ i, i < (l ++ r).length → (Conn (l ++ r).length (meetB (l ++ r)) i f0 ↔ Clus l.length p q p' q' i)
  fr : c.from_ = startAt (l.drop p) (r.drop q)
  to_ : c.from_ ≤ c.to_
  en : ∀ i, i < (l ++ r).length → Clus l.length p q p' q' i → enF (l ++ r) i ≤ c.to_

theorem round_of (l r : List EditP) (hl : Apart l) (hr : Apart r) (p q : Nat) (hp : p ≤ l.length) (hq : q ≤ r.length) (hs : Sep (l ++ r) l.length p q) :
    ∃ p' q' c, Round l r p q p' q' c := by
  obtain ⟨T0, T1, h⟩ := meets_took ⟨startAt (l.drop p) (r.drop q), startAt (l.drop p) (r.drop q), 0, 0, false, false⟩ (l.drop p) (r.drop q)
  obtain ⟨s, hst⟩ : ∃ s, startAt (l.drop p) (r.drop q) = s := ⟨_, rfl⟩
  rw [hst] at h
  have he : firstC (l.drop p) (r.drop q) = meets ⟨s, s, 0, 0, false, false⟩ (l.drop p) (r.drop q) := by unfold firstC; rw [hst]
  obtain ⟨⟨c, L', R'⟩, hm⟩ : ∃ x, meets ⟨s, s, 0, 0, false, false⟩ (l.drop p) (r.drop q) = x := ⟨_, rfl⟩
  rw [hm] at h he
  simp only at h
  have hl1 := congrArg List.length h.l
  have hr1 := congrArg List.length h.r
  rw [List.length_drop, List.length_append] at hl1 hr1
  have hL' : L' = l.drop (p + T0.length) := by rw [← List.drop_drop, h.l, List.drop_left]
  have hR' : R' = r.drop (q + T1.length) := by rw [← List.drop_drop, h.r, List.drop_left]
  have hT0 : (l.drop p).take T0.length = T0 := by rw [h.l, List.take_left]
  have hT1 : (r.drop q).take T1.length = T1 := by rw [h.r, List.take_left]
  have hll : (l ++ r).length = l.length + r.length := List.length_append
  have hgl : ∀ i, i < l.length → (l ++ r)[i]? = l[i]? := fun i hi => List.getElem?_append_left hi
  have hgr : ∀ i, l.length ≤ i → (l ++ r)[i]? = r[i - l.length]? := fun i hi => List.getElem?_append_right hi
  -- what is in the cluster
  have hin : ∀ i, i < (l ++ r).length → Clus l.length p q (p + T0.length) (q + T1.length) i → ∃ e, (l ++ r)[i]? = some e ∧ e ∈ T0 ++ T1 := by
    intro i hi hc
    rcases hc with ⟨h1, h2⟩ | ⟨h1, h2⟩
    · have hil : i < l.length := by omega
      refine ⟨l[i], by rw [hgl i hil]; exact List.getElem?_eq_getElem hil, List.mem_append_left _ ?_⟩
      have e1 : T0[i - p]? = some l[i] := by
        rw [← hT0, List.getElem?_take, if_pos (by omega), List.getElem?_drop, show p + (i - p) = i by omega]
        exact List.getElem?_eq_getElem hil
      exact List.mem_of_getElem? e1
    · have hir : i - l.length < r.length := by omega
      refine ⟨r[i - l.length], by rw [hgr i (by omega)]; exact List.getElem?_eq_getElem hir, List.mem_append_right _ ?_⟩
      have e1 : T1[i - l.length - q]? = some r[i - l.length] := by
        rw [← hT1, List.getElem?_take, if_pos (by omega), List.getElem?_drop, show q + (i - l.length - q) = i - l.length by omega]
        exact List.getElem?_eq_getElem hir
      exact List.mem_of_getElem? e1
  have hout : ∀ i, i < (l ++ r).length → ¬ Used l.length (p + T0.length) (q + T1.length) i → c.to_ < atF (l ++ r) i := by
    intro i hi hu
    unfold Used at hu
    by_cases hil : i < l.length
    · have e0 := hgl i hil
      rw [List.getElem?_eq_getElem hil] at e0
      rw [(atF_of e0).1]
      exact apart_head hl (p := p + T0.length) (by rw [← hL']; exact h.hl) (List.getElem?_eq_getElem hil) (by omega)
    · have e0 := hgr i (by omega)
      have hir : i - l.length < r.length := by omega
      rw [List.getElem?_eq_getElem hir] at e0
      rw [(atF_of e0).1]
      exact apart_head hr (p := q + T1.length) (by rw [← hR']; exact h.hr) (List.getElem?_eq_getElem hir) (by omega)
  have hen : ∀ i, i < (l ++ r).length → Clus l.length p q (p + T0.length) (q + T1.length) i → enF (l ++ r) i ≤ c.to_ := by
    intro i hi hc
    obtain ⟨e, e1, e2⟩ := hin i hi hc
    rw [(atF_of e1).2]
    exact h.en e e2
  have hcov : ∀ i, Used l.length (p + T0.length) (q + T1.length) i → ¬ Used l.length p q i → Clus l.length p q (p + T0.length) (q + T1.length) i := by
    intro i h1 h2; unfold Used at h1 h2; unfold Clus; omega
  have hnu : ∀ i, Clus l.length p q (p + T0.length) (q + T1.length) i → ¬ Used l.length p q i := by
    intro i h1 h2; unfold Used at h2; unfold Clus at h1; omega
  have hal : Apart (l.drop p) := List.Pairwise.sublist (List.drop_sublist ..) hl
  have har : Apart (r.drop q) := List.Pairwise.sublist (List.drop_sublist ..) hr
  have hst2 := start_le hal har
  rw [hst] at hst2
  have hsa : ∀ i, i < (l ++ r).length → ¬ Used l.length p q i → s ≤ atF (l ++ r) i := by
    intro i hi hu
    unfold Used at hu
    by_cases hil : i < l.length
    · have e0 := hgl i hil
      rw [List.getElem?_eq_getElem hil] at e0
      rw [(atF_of e0).1]
      exact hst2 _ (List.mem_append_left _ (List.mem_of_getElem? (i := i - p) (by rw [List.getElem?_drop, show p + (i - p) = i by omega]; exact List.getElem?_eq_getElem hil)))
    · have e0 := hgr i (by omega)
      have hir : i - l.length < r.length := by omega
      rw [List.getElem?_eq_getElem hir] at e0
      rw [(atF_of e0).1]
      exact hst2 _ (List.mem_append_right _ (List.mem_of_getElem? (i := i - l.length - q) (by rw [List.getElem?_drop, show q + (i - l.length - q) = i - l.length by omega]; exact List.getElem?_eq_getElem hir)))
  refine ⟨p + T0.length, q + T1.length, c, by omega, by omega, by omega, by omega, by rw [he, hL', hR'], ?_, ?_, ?_, ?_, ?_, hen⟩
  · rw [hst, show p + T0.length - p = T0.length by omega, show q + T1.length - q = T1.length by omega, hT0, hT1]; exact h.fold
  · intro i k hi hk hui huk
    by_cases hu : Used l.length p q i
    · exact hs i k hi hk hu (fun hx => huk (by unfold Used at hx ⊢; omega))
    · have := hen i hi (hcov i hui hu)
      have := hout k hk huk
      omega
  · rw [hst]
    intro f0 hf0 hu0 hat i hi
    have hto : s ≤ c.to_ := h.to_
    constructor
    · intro hc
      have hS := hc (fun x => x < (l ++ r).length ∧ Clus l.length p q (p + T0.length) (q + T1.length) x) (fun a b ha hb hm => by
        have sym : ∀ a b, a < (l ++ r).length → b < (l ++ r).length → meetB (l ++ r) a b = true → Clus l.length p q (p + T0.length) (q + T1.length) a → Clus l.length p q (p + T0.length) (q + T1.length) b := by
          intro a b ha hb hm hca
          have hea := hen a ha hca
          have hua := hnu a hca
          have hsa' := hsa a ha hua
          unfold meetB at hm
          simp only [Bool.and_eq_true, decide_eq_true_eq] at hm
          by_cases hub : Used l.length p q b
          · have := hs b a hb ha hub hua; omega
          · by_cases hub2 : Used l.length (p + T0.length) (q + T1.length) b
            · exact hcov b hub2 hub
            · have := hout b hb hub2; omega
        exact ⟨fun hx => ⟨hb, sym a b ha hb hm hx.2⟩, fun hx => ⟨ha, sym b a hb ha (by rw [meet_sym]; exact hm) hx.2⟩⟩)
      refine (hS.2 ⟨hf0, hcov f0 ?_ hu0⟩).2
      by_cases hx : Used l.length (p + T0.length) (q + T1.length) f0
      · exact hx
      · have := hout f0 hf0 hx; omega
    · intro hc S hS
      obtain ⟨e, e1, e2⟩ := hin i hi hc
      obtain ⟨g, hg⟩ : ∃ g, (l ++ r)[f0]? = some g := ⟨_, List.getElem?_eq_getElem hf0⟩
      have hgat := (atF_of hg).1
      -- either way round
      have key : ∀ S : Nat → Prop, (∀ a b, a < (l ++ r).length → b < (l ++ r).length → meetB (l ++ r) a b = true → (S a ↔ S b)) → S f0 → S i := by
        intro S hS h0
        have hidx : ∀ f ∈ l.drop p ++ r.drop q, ∃ j : Nat, (l ++ r)[j]? = some f := by
          intro f hf
          have : f ∈ l ++ r := by
            rcases List.mem_append.1 hf with hf | hf
            · exact List.mem_append_left _ (List.mem_of_mem_drop hf)
            · exact List.mem_append_right _ (List.mem_of_mem_drop hf)
          exact List.getElem?_of_mem this
        have := h.all (fun e => ∃ j : Nat, (l ++ r)[j]? = some e ∧ S j) hst2 (fun f hf g' hg' hm => by
          obtain ⟨j, j1, j2⟩ := hg'
          obtain ⟨k, hk⟩ := hidx f hf
          refine ⟨k, hk, ?_⟩
          have hjl := (List.getElem?_eq_some_iff.1 j1).1
          have hkl := (List.getElem?_eq_some_iff.1 hk).1
          refine (hS j k hjl hkl ?_).1 j2
          unfold meetB
          rw [(atF_of j1).1, (atF_of j1).2, (atF_of hk).1, (atF_of hk).2]
          simp only [Bool.and_eq_true, decide_eq_true_eq]
          exact ⟨hm.2, hm.1⟩) (fun x h1 h2 => ⟨g, ⟨f0, hg, h0⟩, by simp only at h1 h2; omega, by simp only at h1 h2; omega⟩) e e2
        obtain ⟨j, j1, j2⟩ := this
        have hjl := (List.getElem?_eq_some_iff.1 j1).1
        refine (hS j i hjl hi ?_).1 j2
        unfold meetB
        rw [(atF_of j1).1, (atF_of j1).2, (atF_of e1).1, (atF_of e1).2]
        simp
      constructor
      · intro hi'
        by_cases h0 : S f0
        · exact h0
        · have := key (fun x => ¬ S x) (fun a b ha hb hm => not_congr (hS a b ha hb hm)) h0
          exact absurd hi' this
      · exact key S hS
  · rw [hst]; exact h.fr
  · have := h.to_; rw [h.fr]; exact this
end Go.Proofs.Ytekeiieefkgopaa.Qn
