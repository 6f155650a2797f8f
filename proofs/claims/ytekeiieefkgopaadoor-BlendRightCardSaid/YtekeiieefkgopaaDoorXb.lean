/- Paths of trees: the document's look at one and the program's: walked. Paths of trees: the program's look at one: walked. -/
import Derived.Test.YtekeiieefkgopaaDoorUa
import Derived.Test.YtekeiieefkgopaaDoorVw
import Derived.Test.YtekeiieefkgopaaDoorSh
import Derived.Laws.Concat
import Derived.Laws.Strings
import Derived.Laws.Strings2
import Derived.Laws.IdiomStrings
import Derived.SliceStrings
import Derived.Lib.Hide
import Derived.Handy
namespace Go.Proofs.YtekeiieefkgopaaDoor.Ub
open Go Go.RowKit Go.Proofs.YtekeiieefkgopaaDoor.Aa Go.Proofs.YtekeiieefkgopaaDoor.Vw Go.Proofs.YtekeiieefkgopaaDoor.Ua
set_option linter.unusedVariables false
set_option linter.unusedSimpArgs false

theorem push_extract (part s : ByteArray) (k : Nat) (h : k < s.size) : part ++ s.extract k (k + 1) = part.push s[k] := by
  refine bytes_ext ?_
  rw [ByteArray.data_append, Array.toList_append, ByteArray.data_extract, Array.toList_extract]
  simp only [ByteArray.push, Array.toList_push]
  congr 1
  have h2 : k < s.data.toList.length := by simpa using h
  rw [List.extract_eq_take_drop, List.drop_eq_getElem_cons h2, show k + 1 - k = 1 by omega]
  rfl
theorem drop_next (s : ByteArray) (k : Nat) (h : k < s.size) : s.data.toList.drop k = s[k] :: s.data.toList.drop (k + 1) := by
  rw [List.drop_eq_getElem_cons (by simpa using h)]; rfl
theorem bad_cases (p : ByteArray) : (p.toList = [] ∧ bad p = true) ∨ (¬ p.toList = [] ∧ p.toList = [46] ∧ bad p = true) ∨ (¬ p.toList = [] ∧ ¬ p.toList = [46] ∧ p.toList = [46, 46] ∧ bad p = true) ∨ (p.toList.isEmpty = false ∧ (p.toList == [46]) = false ∧ (p.toList == [46, 46]) = false ∧ ¬ p.toList = [] ∧ ¬ p.toList = [46] ∧ ¬ p.toList = [46, 46] ∧ bad p = false) := by
  rw [ByteArray.toList_eq]
  have h : ∀ q : ByteArray, p = q ↔ p.data.toList = q.data.toList := fun q => ⟨fun e => by rw [e], fun e => bytes_ext e⟩
  unfold bad
  simp only [h]
  by_cases e1 : p.data.toList = []
  · simp [e1]
  · by_cases e2 : p.data.toList = [46]
    · simp [e2]
    · by_cases e3 : p.data.toList = [46, 46]
      · simp [e3]
      · have hi : p.data.toList.isEmpty = false := by rw [Bool.eq_false_iff, ne_eq, List.isEmpty_iff]; exact e1
        rw [hi]; simp [e1, e2, e3]
set_option maxRecDepth 100000 in
set_option maxHeartbeats 8000000 in
theorem refpath_of (s : ByteArray) (w : World) (hs : s.size ≤ 140737488355328) :
    Calls Tryd.prog 21 #[.string s] w fun e w' => e = .returned (.bool (pathB s)) ∧ w = w' := by
  by_cases hl : (200 : Int) < (s.size : Int)
  · have HR : Hid (pathB s = false) := Lib.hid (by unfold pathB; rw [decide_eq_false (by omega)]; rfl)
    go_enter Tryd.func21, Tryd.ntmps21
    go_wp2_with fail
    go_ret
    exact ⟨by rw [HR.out]; rfl, rfl⟩
  have hl2 : s.size ≤ 200 := by omega
  obtain ⟨R, hR⟩ : ∃ R, pathR ⟨#[]⟩ s.data.toList = R := ⟨_, rfl⟩
  have HR : Hid (pathB s = R) := Lib.hid (by unfold pathB; rw [decide_eq_true hl2, hR]; rfl)
  have H0 : Hid (0 ≤ s.size → R = pathR ⟨#[]⟩ (s.data.toList.drop 0)) := Lib.hid (fun _ => by rw [← hR]; rfl)
  have H1 : Hid (0 = s.size + 1 → R = true) := Lib.hid (fun h => by omega)
  clear hR
  go_enter Tryd.func21, Tryd.ntmps21
  go_wp2_with fail
  go_loopw [3, 4] (fun p i wr => ∃ (k : Nat) (part : ByteArray), k ≤ s.size + 1 ∧ part.size ≤ k ∧ i = .int .i64 k ∧ p = .string part ∧ Hid (k ≤ s.size → R = pathR part (s.data.toList.drop k)) ∧ Hid (k = s.size + 1 → R = true) ∧ w = wr) (fun p i _ => s.size + 1 - (intOf i).toNat)
  case atStart => exact ⟨0, ⟨#[]⟩, by omega, Nat.zero_le _, rfl, rfl, H0, H1, rfl⟩
  case round =>
    clear H0 H1
    obtain ⟨k, part, hk, hps, rfl, rfl, HA, HB, rfl⟩ := hrel
    by_cases h1 : (k : Int) ≤ (s.size : Int)
    · have hks : k ≤ s.size := by omega
      have HQ := Lib.hid (HA.out hks)
      clear HA HB
      by_cases h2 : k = s.size
      · subst h2
        have hd : s.data.toList.drop s.size = [] := List.drop_eq_nil_of_le (by simp)
        have HQ2 : Hid (R = !bad part) := Lib.hid (by rw [HQ.out, hd]; rfl)
        clear HQ hd
        rcases bad_cases part with ⟨e1, hbd⟩ | ⟨e1, e2, hbd⟩ | ⟨e1, e2, e3, hbd⟩ | ⟨i1, i2, i3, e1, e2, e3, hbd⟩
        · have HBD := Lib.hid hbd
          clear hbd
          go_wp2_with fail
          go_ret
          exact ⟨by rw [HR.out, HQ2.out, HBD.out]; rfl, rfl⟩
        · have HBD := Lib.hid hbd
          clear hbd
          go_wp2_with fail
          go_ret
          exact ⟨by rw [HR.out, HQ2.out, HBD.out]; rfl, rfl⟩
        · have HBD := Lib.hid hbd
          clear hbd
          go_wp2_with fail
          go_ret
          exact ⟨by rw [HR.out, HQ2.out, HBD.out]; rfl, rfl⟩
        · have HBD := Lib.hid hbd
          clear hbd
          have HT : Hid (R = true) := Lib.hid (by rw [HQ2.out, HBD.out]; rfl)
          go_wp2_with fail
          exact ⟨⟨s.size + 1, _, by omega, Nat.zero_le _, by go_num, rfl, Lib.hid (fun h => by omega), Lib.hid (fun _ => HT.out), trivial⟩, by simp [intOf]⟩
      · have h3 : k < s.size := by omega
        have hb : ((k : Int) == (s.size : Int)) = false := by rw [beq_eq_false_iff_ne]; omega
        have hdn := drop_next s k h3
        by_cases h4 : s[k] = 47
        · have h5 : ((s[k].toNat : Int) == 47) = true := by rw [h4]; rfl
          have HQ2 : Hid (R = (!bad part && pathR ⟨#[]⟩ (s.data.toList.drop (k + 1)))) := Lib.hid (by rw [HQ.out, hdn, h4]; conv => lhs; unfold pathR; rw [if_pos rfl])
          clear HQ hdn h4
          rcases bad_cases part with ⟨e1, hbd⟩ | ⟨e1, e2, hbd⟩ | ⟨e1, e2, e3, hbd⟩ | ⟨i1, i2, i3, e1, e2, e3, hbd⟩
          · have HBD := Lib.hid hbd
            clear hbd
            go_wp2_with fail
            go_ret
            exact ⟨by rw [HR.out, HQ2.out, HBD.out]; rfl, rfl⟩
          · have HBD := Lib.hid hbd
            clear hbd
            go_wp2_with fail
            go_ret
            exact ⟨by rw [HR.out, HQ2.out, HBD.out]; rfl, rfl⟩
          · have HBD := Lib.hid hbd
            clear hbd
            go_wp2_with fail
            go_ret
            exact ⟨by rw [HR.out, HQ2.out, HBD.out]; rfl, rfl⟩
          · have HBD := Lib.hid hbd
            clear hbd
            have HT : Hid (R = pathR ⟨#[]⟩ (s.data.toList.drop (k + 1))) := Lib.hid (by rw [HQ2.out, HBD.out]; rfl)
            go_wp2_with fail
            exact ⟨⟨k + 1, _, by omega, Nat.zero_le _, by go_num, rfl, Lib.hid (fun _ => HT.out), Lib.hid (fun h => by omega), trivial⟩, by simp [intOf]; try omega⟩
        · have h5 : ((s[k].toNat : Int) == 47) = false := by
            rw [beq_eq_false_iff_ne]; intro h; exact h4 (UInt8.toNat_inj.1 (by have : (47 : UInt8).toNat = 47 := rfl; omega))
          have HQ2 : Hid (R = (if oddB s[k] then false else pathR (part.push s[k]) (s.data.toList.drop (k + 1)))) := Lib.hid (by rw [HQ.out, hdn]; conv => lhs; unfold pathR; rw [if_neg h4])
          clear HQ hdn h4
          by_cases o1 : s[k].toNat < 32
          · have HT : Hid (R = false) := Lib.hid (by rw [HQ2.out, if_pos (by unfold oddB; simp [o1])])
            have o2 : (s[k].toNat : Int) < 32 := by omega
            go_wp2_with fail
            go_ret
            exact ⟨by rw [HR.out, HT.out]; rfl, rfl⟩
          · by_cases o3 : s[k].toNat = 127
            · have HT : Hid (R = false) := Lib.hid (by rw [HQ2.out, if_pos (by unfold oddB; simp [o3])])
              have o2 : ¬ (s[k].toNat : Int) < 32 := by omega
              have o4 : ((s[k].toNat : Int) == 127) = true := by rw [o3]; rfl
              go_wp2_with fail
              go_ret
              exact ⟨by rw [HR.out, HT.out]; rfl, rfl⟩
            · have HT : Hid (R = pathR (part ++ s.extract k (k + 1)) (s.data.toList.drop (k + 1))) := Lib.hid (by rw [HQ2.out, if_neg (by unfold oddB; simp [o1, o3]), push_extract part s k h3])
              have o2 : ¬ (s[k].toNat : Int) < 32 := by omega
              have o4 : ((s[k].toNat : Int) == 127) = false := by rw [beq_eq_false_iff_ne]; omega
              have h6 : (k : Int) + 1 ≤ (s.size : Int) := by omega
              have h7 : (k : Int) ≤ (k : Int) + 1 := by omega
              have hsl : ∀ W : World, (Instr.slice 9 (.string s) (some (.int .i64 (k : Int))) (some (.int .i64 ((k : Int) + 1))) none).run Tryd.prog W = .ok (.string (s.extract k (k + 1))) W := fun W => by have := run_slice_string (P := Tryd.prog) (w := W) 9 s .i64 .i64 (k : Int) ((k : Int) + 1) Tryd.underlying9 (by omega) h7 h6; simpa using this
              have hadd : (Op.stringOp .add part (s.extract k (k + 1))).run Tryd.prog w = .ok (.string (part ++ s.extract k (k + 1))) w := run_string_add w part (s.extract k (k + 1)) (by omega) (by rw [ByteArray.size_extract]; omega)
              go_wp2_with fail
              exact ⟨⟨k + 1, _, by omega, by rw [ByteArray.size_append, ByteArray.size_extract]; omega, by go_num, rfl, Lib.hid (fun _ => HT.out), Lib.hid (fun h => by omega), trivial⟩, by simp [intOf]; try omega⟩
    · have HT : Hid (R = true) := Lib.hid (HB.out (by omega))
      go_wp2_with fail
      go_ret
      exact ⟨by rw [HR.out, HT.out]; rfl, rfl⟩
end Go.Proofs.YtekeiieefkgopaaDoor.Ub
namespace Go.Proofs.YtekeiieefkgopaaDoor.Uc
open Go Go.RowKit Go.Proofs.YtekeiieefkgopaaDoor.Aa Go.Proofs.YtekeiieefkgopaaDoor.Vw Go.Proofs.YtekeiieefkgopaaDoor.Ua Go.Proofs.YtekeiieefkgopaaDoor.Ub
set_option linter.unusedVariables false
set_option linter.unusedSimpArgs false

set_option maxRecDepth 100000 in
set_option maxHeartbeats 4000000 in
theorem odd_of (b : UInt8) (w : World) : Calls Tryd.prog 47 #[.int .u8 (b.toNat : Nat)] w fun e w' => e = .returned (.bool (oddB b)) ∧ w = w' := by
  have HR : Hid (oddB b = (decide (b.toNat < 32) || decide (b.toNat = 127))) := Lib.hid rfl
  by_cases o1 : b.toNat < 32
  · have o2 : (b.toNat : Int) < 32 := by omega
    go_enter Tryd.func47, Tryd.ntmps47
    go_wp2_with fail
    go_ret
    exact ⟨by rw [HR.out, decide_eq_true o1]; rfl, rfl⟩
  · have o2 : ¬ (b.toNat : Int) < 32 := by omega
    by_cases o3 : b.toNat = 127
    · have o4 : ((b.toNat : Int) == 127) = true := by rw [o3]; rfl
      go_enter Tryd.func47, Tryd.ntmps47
      go_wp2_with fail
      go_ret
      exact ⟨by rw [HR.out, decide_eq_true o3, Bool.or_true]; rfl, rfl⟩
    · have o4 : ((b.toNat : Int) == 127) = false := by rw [beq_eq_false_iff_ne]; omega
      go_enter Tryd.func47, Tryd.ntmps47
      go_wp2_with fail
      go_ret
      exact ⟨by rw [HR.out, decide_eq_false o1, decide_eq_false o3]; rfl, rfl⟩
abbrev byte (b : UInt8) : Value := .int .u8 (b.toNat : Nat)
def u8 : El UInt8 := El.flat byte
abbrev oddV : Value := .func (.func 47) #[] #[]
set_option maxRecDepth 100000 in
set_option maxHeartbeats 4000000 in
theorem indexf_of (A : Option Addr) (c : Nat) (bs : List UInt8) (w : World) (h : u8.Row w A c bs) :
    Calls Tryd.prog 72 #[.slice A bs.length c, oddV] w fun e w' => ∃ i : Int, e = .returned (.int .i64 i) ∧ (decide (0 ≤ i) = bs.any oddB) ∧ w = w' := by
  have hlx := h.len
  have HX := Lib.hid h
  clear h
  go_enter Tryd.func72, Tryd.ntmps72
  go_wp2_with fail
  go_loopw [8] (fun i wr => ∃ k : Nat, k ≤ bs.length ∧ i = .int .i64 k ∧ Hid ((bs.take k).any oddB = false) ∧ w = wr) (fun i _ => bs.length - (intOf i).toNat)
  case atStart => exact ⟨0, by omega, rfl, Lib.hid (by simp), rfl⟩
  case round =>
    obtain ⟨k, hk, rfl, HN, rfl⟩ := hrel
    by_cases hlt : k < bs.length
    · obtain ⟨ad, rfl, p0⟩ := HX.out.flat_at k hlt
      have hT : (bs.take (k + 1)).any oddB = oddB bs[k] := by rw [List.take_succ_eq_append_getElem hlt, List.any_append, HN.out]; simp
      have hA : oddB bs[k] = true → bs.any oddB = true := fun hh => List.any_eq_true.2 ⟨_, List.getElem_mem _, hh⟩
      have HT := Lib.hid hT; have HA := Lib.hid hA
      have hs := odd_of bs[k] w
      obtain ⟨q, hq⟩ : ∃ q, oddB bs[k] = q := ⟨_, rfl⟩
      rw [hq] at hs HT HA
      obtain ⟨y, hy⟩ : ∃ y, bs[k] = y := ⟨_, rfl⟩
      rw [hy] at p0 hs
      clear hT hA hq hy
      cases q with
      | true =>
        go_wp2_with fail
        refine hs.mono ?_
        rintro e w' ⟨rfl, hw⟩
        subst hw
        clear hs
        go_wp2_with fail
        go_ret
        exact ⟨_, rfl, by rw [HA.out (by trivial)]; simp, rfl⟩
      | false =>
        go_wp2_with fail
        refine hs.mono ?_
        rintro e w' ⟨rfl, hw⟩
        subst hw
        clear hs
        go_wp2_with fail
        go_roundw
        case rel => exact ⟨k + 1, by omega, by go_num, HT, trivial⟩
        case measure => simp [intOf]; omega
    · have HT : Hid (bs.any oddB = false) := Lib.hid (by have := HN.out; rwa [List.take_of_length_le (by omega)] at this)
      go_wp2_with fail
      go_ret
      exact ⟨_, rfl, by rw [HT.out]; rfl, rfl⟩
set_option maxRecDepth 100000 in
set_option maxHeartbeats 4000000 in
theorem containsf_of (A : Option Addr) (c : Nat) (bs : List UInt8) (w : World) (h : u8.Row w A c bs) :
    Calls Tryd.prog 46 #[.slice A bs.length c, oddV] w fun e w' => e = .returned (.bool (bs.any oddB)) ∧ w = w' := by
  have hi := indexf_of A c bs w h
  clear h
  go_enter Tryd.func46, Tryd.ntmps46
  go_wp2_with fail
  refine hi.mono ?_
  rintro e w' ⟨i, rfl, hd, hw⟩
  subst hw
  clear hi
  have HD := Lib.hid hd
  clear hd
  go_wp2_with fail
  go_ret
  exact ⟨by rw [← HD.out]; rfl, rfl⟩
theorem index_byte : ∀ l, Lib.indexByte l 47 = Lib.index l [47]
  | [] => rfl
  | b :: l => by
    by_cases hb : b = 47
    · subst hb; rw [index_head]; unfold Lib.indexByte; rw [if_pos (by simp)]
    · rw [index_tail hb, ← index_byte l]
      conv => lhs; unfold Lib.indexByte
      rw [if_neg (by simpa using hb)]
/-- strings.Split at a slash: nothing is asked of the library's variables. -/
theorem split_of (s : ByteArray) (w : World) (hs : s.size < 4294967281) :
    Calls Tryd.prog 45 #[.string s, .string sl] w fun e w' => e = .returned (.slice (some ⟨w.heap.size, 0, none⟩) (parts s).length (parts s).length) ∧ w' = w.alloc (.cells ((parts s).map Value.string).toArray 9) := by
  have h1 : 1 ≤ sl.size := by decide
  have hle := Lib.countB_le sl h1 s.size s (Nat.le_refl _)
  have hps : Lib.splitB sl 0 (Lib.countB s sl) s = parts s := split_segs _ s rfl
  have hlen : (parts s).length = Lib.countB s sl + 1 := by rw [← hps]; exact Lib.splitB_all sl h1 0 _ s rfl
  have c := Any.strings_genSplit_core Tryd.lays221 (by kernel_rfl) s sl 0 (-1) (Lib.countB s sl + 1) w hs h1 (Nat.zero_le _)
    (fun x c hx => (Any.strings_Index_one Tryd.lays143 x 47 _).mono fun e w' h => ⟨by rw [h.1, index_byte]; rfl, h.2⟩)
    ((Any.strings_Count_one Tryd.lays138 s 47 w).mono fun e w' h => ⟨by rw [h.1]; show _ = Ending.returned (Value.int .i64 ((Lib.count s.data.toList [47] : Nat) : Int)); rw [Lib.count_one]; rfl, h.2⟩)
    (by decide) (by decide) (by rw [if_pos (by decide)]; omega)
  rw [Nat.add_sub_cancel, hps, ← hlen, Lib.cellsOf_full] at c
  go_enter Tryd.func45, Tryd.ntmps45
  go_wp2_with fail
  refine Calls.mono c ?_
  rintro e w' ⟨rfl, hw⟩
  have HW := Lib.hid hw
  clear hw
  go_wp2_with fail
  go_ret
  exact ⟨by rw [hlen]; rfl, HW.out⟩
theorem parts_len (s : ByteArray) : (parts s).length ≤ s.size + 1 := by
  have h1 : 1 ≤ sl.size := by decide
  have hle := Lib.countB_le sl h1 s.size s (Nat.le_refl _)
  have hps : Lib.splitB sl 0 (Lib.countB s sl) s = parts s := split_segs _ s rfl
  have hlen : (parts s).length = Lib.countB s sl + 1 := by rw [← hps]; exact Lib.splitB_all sl h1 0 _ s rfl
  omega
theorem str_row (w : World) (xs : List ByteArray) (hm : xs.length ≤ maxLen) : El.str.Row (w.alloc (.cells (xs.map Value.string).toArray 9)) (some ⟨w.heap.size, 0, none⟩) xs.length xs := by
  refine El.Row.flat_of (Nat.le_refl _) hm (fun h => by cases h) (fun k x hx => ⟨_, rfl, ?_⟩)
  have e : (Addr.add ⟨w.heap.size, 0, none⟩ k) = ⟨w.heap.size, k, none⟩ := by unfold Addr.add; split <;> simp_all
  rw [e, bCell (bNew _ _)]
  simp [List.getElem?_map, hx]
theorem bytes_row (w : World) (s : ByteArray) (hm : s.size ≤ maxLen) : u8.Row (w.drew.alloc (.cells (bytesRow s (grownCap w s.size 0 5)) 5 ((bytesRow s (grownCap w s.size 0 5)).size, (bytesRow s (grownCap w s.size 0 5)).size + 1))) (some ⟨w.heap.size, 0, none⟩) (grownCap w s.size 0 5) s.data.toList := by
  refine El.Row.flat_of (grownCap_ge w s.size 0 _) (grownCap_le_maxLen w s.size 0 _ hm) (fun h => by cases h) (fun k x hx => ⟨_, rfl, ?_⟩)
  have e : (Addr.add ⟨w.heap.size, 0, none⟩ k) = ⟨w.heap.size, k, none⟩ := by unfold Addr.add; split <;> simp_all
  have hk := (List.getElem?_eq_some_iff.1 hx).1
  have hk2 : k < s.data.size := by simpa using hk
  have hc := cell_of_row (w.drew.alloc (.cells (bytesRow s (grownCap w s.size 0 5)) 5 ((bytesRow s (grownCap w s.size 0 5)).size, (bytesRow s (grownCap w s.size 0 5)).size + 1))) w.heap.size k _ _ _ (heap_alloc_new w.drew _)
  rw [e, hc, bytesRow_at s _ k hk2]
  have : x = s.data[k] := by
    rw [List.getElem?_eq_getElem hk] at hx
    simpa using (Option.some.inj hx).symm
  rw [this]
set_option maxRecDepth 100000 in
set_option maxHeartbeats 8000000 in
theorem tpath_of (s : ByteArray) (w : World) (hs : s.size ≤ 1000000) :
    Calls Tryd.prog 20 #[.string s] w fun e w' => e = .returned (.bool (pathB s)) ∧ Ch no w w' := by
  have hpl := parts_len s
  have HA := Lib.hid (path_alike s)
  have hsp := split_of s w (by omega)
  have HR1 := Lib.hid (str_row w (parts s) (by unfold maxLen; omega))
  obtain ⟨ps, hps⟩ : ∃ ps, parts s = ps := ⟨_, rfl⟩
  rw [hps] at hpl HA hsp HR1
  clear hps
  go_enter Tryd.func20, Tryd.ntmps20
  go_wp2_with fail
  refine Calls.mono hsp ?_
  rintro e w1 ⟨rfl, hw⟩
  have HC1 : Hid (Ch no w w1) := Lib.hid (by rw [hw]; exact (Ch.refl no w).alloc _)
  rw [← hw] at HR1
  obtain ⟨g, hg⟩ : ∃ g, w.heap.size = g := ⟨_, rfl⟩
  rw [hg] at HR1 ⊢
  clear hw hsp hg
  go_wp2_with fail
  go_loopw [8] (fun i wr => ∃ k : Nat, k ≤ ps.length ∧ i = .int .i64 k ∧ Hid ((ps.take k).all (fun q => !bad q) = true) ∧ w1 = wr) (fun i _ => ps.length - (intOf i).toNat)
  case atStart => exact ⟨0, by omega, rfl, Lib.hid (by simp), rfl⟩
  case round =>
    obtain ⟨k, hk, rfl, HN, rfl⟩ := hrel
    by_cases hlt : k < ps.length
    · obtain ⟨ad, had, p0⟩ := HR1.out.flat_at k hlt
      cases had
      have hT : (ps.take (k + 1)).all (fun q => !bad q) = !bad ps[k] := by rw [List.take_succ_eq_append_getElem hlt, List.all_append, HN.out]; simp
      have hF : bad ps[k] = true → pathB s = false := fun hb => by
        rw [HA.out, List.all_eq_false.2 ⟨_, List.getElem_mem hlt, by simp [hb]⟩]; rfl
      have HT := Lib.hid hT; have HF := Lib.hid hF
      obtain ⟨q, hq⟩ : ∃ q, ps[k] = q := ⟨_, rfl⟩
      have ea : (Addr.add ⟨g, 0, none⟩ k) = ⟨g, k, none⟩ := by unfold Addr.add; split <;> simp_all
      replace p0 : w1.cell? ⟨g, k, none⟩ = some (.string q) := by rw [← ea]; exact p0.trans (congrArg (fun z => some (Value.string z)) hq)
      clear ea
      rw [hq] at HT HF
      clear hT hF hq
      rcases bad_cases q with ⟨e1, hbd⟩ | ⟨e1, e2, hbd⟩ | ⟨e1, e2, e3, hbd⟩ | ⟨i1, i2, i3, e1, e2, e3, hbd⟩
      · have HBD := Lib.hid (HF.out hbd)
        clear hbd
        go_wp2_with fail
        go_ret
        exact ⟨by rw [HBD.out]; rfl, HC1.out⟩
      · have HBD := Lib.hid (HF.out hbd)
        clear hbd
        go_wp2_with fail
        go_ret
        exact ⟨by rw [HBD.out]; rfl, HC1.out⟩
      · have HBD := Lib.hid (HF.out hbd)
        clear hbd
        go_wp2_with fail
        go_ret
        exact ⟨by rw [HBD.out]; rfl, HC1.out⟩
      · have HT2 : Hid ((ps.take (k + 1)).all (fun q => !bad q) = true) := Lib.hid (by rw [HT.out, hbd]; rfl)
        clear hbd
        go_wp2_with fail
        go_roundw
        case rel => exact ⟨k + 1, by omega, by go_num, HT2, trivial⟩
        case measure => simp [intOf]; omega
    · have HR : Hid (pathB s = (decide (s.size ≤ 200) && !s.data.toList.any oddB)) := Lib.hid (by
        have := HN.out
        rw [List.take_of_length_le (by omega)] at this
        rw [HA.out, this, Bool.true_and])
      by_cases hl : s.size ≤ 200
      · have hl1 : (s.size : Int) ≤ 200 := by omega
        have hcv := run_bytes_of_string (P := Tryd.prog) w1 9 33 5 s Tryd.underlying9 Tryd.underlying33 Tryd.underlying5
        have hcr := bytes_row w1 s (by unfold maxLen; omega)
        obtain ⟨cap, hcap⟩ : ∃ cap, grownCap w1 s.size 0 5 = cap := ⟨_, rfl⟩
        rw [hcap] at hcv hcr
        have hc2 : Ch no w1 (w1.drew.alloc (.cells (bytesRow s cap) 5 ((bytesRow s cap).size, (bytesRow s cap).size + 1))) := ((Ch.refl no w1).drew).alloc _
        obtain ⟨w2, hw2⟩ : ∃ w2, w1.drew.alloc (.cells (bytesRow s cap) 5 ((bytesRow s cap).size, (bytesRow s cap).size + 1)) = w2 := ⟨_, rfl⟩
        rw [hw2] at hcv hcr hc2
        have hct := containsf_of _ _ _ _ hcr
        have hlen : s.data.toList.length = s.size := rfl
        rw [hlen] at hct
        obtain ⟨h2, hh2⟩ : ∃ h2, w1.heap.size = h2 := ⟨_, rfl⟩
        rw [hh2] at hcv hct
        have HC2 := Lib.hid (HC1.out.then_ hc2)
        obtain ⟨r, hr⟩ : ∃ r, s.data.toList.any oddB = r := ⟨_, rfl⟩
        have HRR : Hid (pathB s = !r) := Lib.hid (by rw [HR.out, decide_eq_true hl, hr]; rfl)
        rw [hr] at hct
        clear hcr hc2 hw2 hcap hlen hh2 hr
        go_wp2_with fail
        refine Calls.mono hct ?_
        rintro e w' ⟨rfl, hw⟩
        subst hw
        clear hct hcv
        go_wp2_with fail
        go_ret
        exact ⟨by rw [HRR.out]; rfl, HC2.out⟩
      · have hl1 : ¬ (s.size : Int) ≤ 200 := by omega
        go_wp2_with fail
        go_ret
        exact ⟨by rw [HR.out, decide_eq_false hl]; rfl, HC1.out⟩
end Go.Proofs.YtekeiieefkgopaaDoor.Uc
