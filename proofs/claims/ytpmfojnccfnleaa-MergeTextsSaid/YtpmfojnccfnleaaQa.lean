/- The document's answers: binary, joined, closed. -/
import Derived.Test.YtpmfojnccfnleaaNq
import Derived.Laws.Concat
import Derived.BigQuiet
namespace Go.Proofs.Ytpmfojnccfnleaa.Qa
open Go.RowKit Go.Proofs.Ytpmfojnccfnleaa.Aa Go.Proofs.Ytpmfojnccfnleaa.Vw Go.Proofs.Ytpmfojnccfnleaa.Ma Go.Proofs.Ytpmfojnccfnleaa.Mb Go.Proofs.Ytpmfojnccfnleaa.Na Go.Proofs.Ytpmfojnccfnleaa.No Go.Proofs.Ytpmfojnccfnleaa.Np Go.Proofs.Ytpmfojnccfnleaa.Nq
set_option linter.unusedVariables false
set_option linter.unusedSimpArgs false

theorem idx_mem (l : List UInt8) (c : UInt8) : 0 ≤ Lib.indexByte l c ↔ c ∈ l := by
  induction l with
  | nil => simp [Lib.indexByte]
  | cons b l ih =>
    have hge := Lib.indexByte_ge l c
    simp only [Lib.indexByte]
    by_cases h : b = c
    · subst h; simp
    · have h2 : (b == c) = false := by rw [beq_eq_false_iff_ne]; exact h
      rw [h2]
      simp only [Bool.false_eq_true, if_false, List.mem_cons]
      by_cases h3 : Lib.indexByte l c = -1
      · rw [h3]
        constructor
        · intro hh; simp at hh
        · rintro (rfl | hm)
          · exact absurd rfl h
          · have := ih.2 hm; omega
      · have h4 : (Lib.indexByte l c == -1) = false := by rw [beq_eq_false_iff_ne]; exact h3
        rw [h4]
        simp only [Bool.false_eq_true, if_false]
        constructor
        · intro _; exact .inr (ih.1 (by omega))
        · intro _; omega

set_option maxRecDepth 100000 in
set_option maxHeartbeats 4000000 in
theorem refBinary_of (s : ByteArray) (w : World) (hs : s.size ≤ 9223372036854775806) :
    Calls Try.prog 64 #[.string s] w fun e w' => e = .returned (.bool (binB s)) ∧ w = w' := by
  go_enter Try.func64, Try.ntmps64
  go_wp2_with fail
  go_loopw [3] (fun i wr => ∃ k : Nat, k ≤ s.size ∧ i = .int .i64 k ∧ Hid (∀ j (h : j < s.size), j < k → s[j] ≠ 0) ∧ w = wr) (fun i _ => s.size - (intOf i).toNat)
  case atStart => exact ⟨0, by omega, rfl, Lib.hid (fun j h h' => by omega), rfl⟩
  case round =>
    obtain ⟨k, hk, rfl, HN, rfl⟩ := hrel
    by_cases hlt : k < s.size
    · by_cases h0 : s[k] = 0
      · have hb : ((s[k].toNat : Int) == 0) = true := by rw [h0]; rfl
        have hm : binB s = true := by
          unfold binB
          rw [decide_eq_true_eq, idx_mem]
          have hk2 : s.data.toList[k]'(by simpa using hlt) = 0 := h0
          rw [← hk2]
          exact List.getElem_mem _
        have HM := Lib.hid hm
        clear hm
        go_wp2_with fail
        go_ret
        exact ⟨by rw [HM.out]; rfl, rfl⟩
      · have hb : ((s[k].toNat : Int) == 0) = false := by
          rw [beq_eq_false_iff_ne]; intro h; exact h0 (UInt8.toNat_inj.1 (by have : (0 : UInt8).toNat = 0 := rfl; omega))
        have HN2 : Hid (∀ j (h : j < s.size), j < k + 1 → s[j] ≠ 0) := Lib.hid (fun j h h' => by
          by_cases e : j = k
          · subst e; exact h0
          · exact HN.out j h (by omega))
        clear h0
        go_wp2_with fail
        go_roundw
        case rel => exact ⟨k + 1, by omega, by go_num, HN2, trivial⟩
        case measure => simp [intOf]; omega
    · have hm : binB s = false := by
        unfold binB
        rw [decide_eq_false_iff_not, idx_mem]
        intro hm
        obtain ⟨j, hj, e⟩ := List.getElem_of_mem hm
        have hj2 : j < s.size := by simpa using hj
        exact HN.out j hj2 (by omega) e
      have HM := Lib.hid hm
      clear hm
      go_wp2_with fail
      go_ret
      exact ⟨by rw [HM.out]; rfl, rfl⟩

theorem joinS_append (l m : List ByteArray) : joinS (l ++ m) = joinS l ++ joinS m := by
  apply ByteArray.ext
  apply Array.toList_inj.1
  simp [joinS, List.flatMap_append]
theorem joinS_one (x : ByteArray) : joinS [x] = x := by
  apply ByteArray.ext
  apply Array.toList_inj.1
  simp [joinS]
theorem joinS_next (xs : List ByteArray) (k : Nat) (h : k < xs.length) : joinS (xs.take (k + 1)) = joinS (xs.take k) ++ xs[k] := by
  rw [List.take_succ_eq_append_getElem h, joinS_append, joinS_one]
theorem joinS_le (xs : List ByteArray) (k : Nat) : (joinS (xs.take k)).size ≤ (joinS xs).size := by
  have e : joinS xs = joinS (xs.take k) ++ joinS (xs.drop k) := by rw [← joinS_append, List.take_append_drop]
  rw [e, ByteArray.size_append]
  omega
set_option maxRecDepth 100000 in
set_option maxHeartbeats 4000000 in
theorem refJoin_of (A : Option Addr) (c : Nat) (xs : List ByteArray) (w : World) (hx : El.str.Row w A c xs) (hs : (joinS xs).size ≤ 8000000) :
    Calls Try.prog 67 #[.slice A xs.length c] w fun e w' => e = .returned (.string (joinS xs)) ∧ w = w' := by
  have hl := hx.len
  have HX := Lib.hid hx
  clear hx
  go_enter Try.func67, Try.ntmps67
  go_wp2_with fail
  go_loopw [3, 4] (fun s i wr => ∃ (k : Nat) (t : ByteArray), k ≤ xs.length ∧ i = .int .i64 k ∧ s = .string t ∧ Hid (t = joinS (xs.take k)) ∧ w = wr) (fun s i _ => xs.length - (intOf i).toNat)
  case atStart => exact ⟨0, ⟨#[]⟩, by omega, rfl, rfl, Lib.hid rfl, rfl⟩
  case round =>
    obtain ⟨k, t, hk, rfl, rfl, HT, rfl⟩ := hrel
    by_cases hlt : k < xs.length
    · obtain ⟨a, rfl, hca⟩ := HX.out.flat_at k hlt
      have hle := joinS_le xs (k + 1)
      rw [joinS_next xs k hlt, ByteArray.size_append, ← HT.out] at hle
      have hadd := run_string_add (P := Try.prog) w t xs[k] (by omega) (by omega)
      have HN : Hid (t ++ xs[k] = joinS (xs.take (k + 1))) := Lib.hid (by rw [joinS_next xs k hlt, ← HT.out])
      obtain ⟨t2, ht2⟩ : ∃ t2, t ++ xs[k] = t2 := ⟨_, rfl⟩
      rw [ht2] at hadd HN
      clear hle ht2
      go_wp2_with fail
      go_roundw
      case rel => exact ⟨k + 1, t2, by omega, by go_num, rfl, HN, trivial⟩
      case measure => simp [intOf]; omega
    · have HJ : Hid (t = joinS xs) := Lib.hid (by rw [HT.out, List.take_of_length_le (by omega)])
      go_wp2_with fail
      go_ret
      exact ⟨by rw [← HJ.out]; rfl, rfl⟩
end Go.Proofs.Ytpmfojnccfnleaa.Qa
