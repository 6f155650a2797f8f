/- Lines with their ends; what stands around what clashes. -/
import Derived.Test.YtekeiieefkgopaaDoorMa
import Derived.Test.YtekeiieefkgopaaDoorMr
namespace Go.Proofs.YtekeiieefkgopaaDoor.Mb
open Go.RowKit Go.Proofs.YtekeiieefkgopaaDoor.Aa Go.Proofs.YtekeiieefkgopaaDoor.Vw Go.Proofs.YtekeiieefkgopaaDoor.Ma Go.Proofs.YtekeiieefkgopaaDoor.Mr
set_option linter.unusedVariables false
set_option linter.unusedSimpArgs false

/-- Does a text end with an end of a line? -/
def endNl (s : ByteArray) : Bool := s.toList.getLast? == some 10
/-- A line with its end. -/
def closeL (s : ByteArray) : ByteArray := if endNl s then s else s ++ ⟨#[10]⟩

theorem endNl_of (s : ByteArray) (h : 1 ≤ s.size) : ((s.extract (s.size - 1) s.size).toList == [10]) = endNl s := by
  unfold endNl
  rw [ByteArray.toList_eq, ByteArray.toList_eq]
  have e : (s.extract (s.size - 1) s.size).data.toList = s.data.toList.drop (s.data.toList.length - 1) := by
    have hl : s.data.toList.length = s.size := by rw [Array.length_toList]; rfl
    rw [ByteArray.data_extract, Array.toList_extract, hl, List.extract_eq_take_drop, List.take_of_length_le]
    rw [List.length_drop]; omega
  rw [e]
  have hl : s.data.toList.length = s.size := by rw [Array.length_toList]; rfl
  generalize s.data.toList = l at *
  rcases List.eq_nil_or_concat l with rfl | ⟨r, x, rfl⟩
  · simp at hl; omega
  · simp
theorem endNl_none (s : ByteArray) (h : s.size = 0) : endNl s = false := by
  unfold endNl
  rw [ByteArray.toList_eq]
  have hl : s.data.toList.length = s.size := by rw [Array.length_toList]; rfl
  have : s.data.toList = [] := List.length_eq_zero_iff.1 (by omega)
  rw [this]; rfl

theorem suffix0 (s : ByteArray) (w : World) (hs : s.size ≤ 9223372036854775807) :
    Calls Tryd.prog 157 #[.string s, .string ⟨#[10]⟩] w fun e w' => e = .returned (.bool (endNl s)) ∧ w' = w := by
  by_cases h0 : 1 ≤ s.size
  · have H := Lib.hid (endNl_of s h0)
    go_enter Tryd.func157, Tryd.ntmps157
    go_wp2_with fail
    go_ret
    exact ⟨by rw [← H.out]; rfl, rfl⟩
  · have H := Lib.hid (endNl_none s (by omega))
    have h1 : s.size < 1 := by omega
    go_enter Tryd.func157, Tryd.ntmps157
    go_wp2_with fail
    go_ret
    exact ⟨by rw [H.out]; rfl, rfl⟩
theorem suffix1 (s : ByteArray) (w : World) (hs : s.size ≤ 9223372036854775807) :
    Calls Tryd.prog 152 #[.string s, .string ⟨#[10]⟩] w fun e w' => e = .returned (.bool (endNl s)) ∧ w' = w := by
  go_enter Tryd.func152, Tryd.ntmps152
  go_wp2_with fail
  refine (suffix0 s _ hs).mono ?_
  rintro e w' ⟨rfl, rfl⟩
  go_wp2_with fail
  go_ret
  exact ⟨rfl, rfl⟩
/-- lines.Closed. -/
theorem lclosed_any (s : ByteArray) (w : World) (hs : s.size ≤ 9223372036854775807) :
    Calls Tryd.prog 141 #[.string s] w fun e w' => e = .returned (.bool (s.toList.isEmpty || endNl s)) ∧ w' = w := by
  cases he : s.toList.isEmpty with
  | true =>
    have h1 : s.toList = [] := by simpa using he
    have h2 : (s.toList == []) = true := by simp [h1]
    have H := Lib.hid h1
    clear h1 he
    go_enter Tryd.func141, Tryd.ntmps141
    go_wp2_with fail
    go_ret
    exact ⟨rfl, rfl⟩
  | false =>
    have h2 : (s.toList == []) = false := by cases h : s.toList <;> simp_all
    clear he
    go_enter Tryd.func141, Tryd.ntmps141
    go_wp2_with fail
    refine (suffix1 s _ hs).mono ?_
    rintro e w' ⟨rfl, rfl⟩
    go_wp2_with fail
    go_ret
    exact ⟨by simp, rfl⟩

/-- A row of strings of a call's own, at block g: its cells. -/
structure Buf (w : World) (g cap : Nat) (xs : List ByteArray) : Prop where
  blk : ∃ cur : Array Value, w.heap[g]? = some (.cells cur 9 (0, 0)) ∧ cur.size = cap ∧ cur.toList.take xs.length = xs.map Value.string
  le : xs.length ≤ cap
  max : cap ≤ maxLen
theorem Buf.cell {w : World} {g cap : Nat} {xs : List ByteArray} (h : Buf w g cap xs) (k : Nat) (hk : k < xs.length) : w.cell? ⟨g, k, none⟩ = some (.string xs[k]) := by
  obtain ⟨cur, hb, hs, ht⟩ := h.blk
  rw [bCell hb]
  have h4 : (xs.map Value.string)[k]? = some (.string xs[k]) := by rw [List.getElem?_map, List.getElem?_eq_getElem hk]; rfl
  rw [← ht, List.getElem?_take, if_pos hk, Array.getElem?_toList] at h4
  exact h4
theorem Buf.free {w : World} {g cap : Nat} {xs : List ByteArray} (h : Buf w g cap xs) (k : Nat) : w.frozen? ⟨g, k, none⟩ = false := by
  obtain ⟨cur, hb, hs, ht⟩ := h.blk
  exact bFree hb k
theorem Buf.set {w : World} {g cap : Nat} {xs : List ByteArray} (h : Buf w g cap xs) (k : Nat) (hk : k < xs.length) (s : ByteArray) : Buf (w.setCell ⟨g, k, none⟩ (.string s)) g cap (xs.set k s) := by
  obtain ⟨cur, hb, hs, ht⟩ := h.blk
  refine ⟨⟨cur.setIfInBounds k (.string s), bSet hb k _, by simpa using hs, ?_⟩, by simpa using h.le, h.max⟩
  rw [Array.toList_setIfInBounds, List.length_set, List.take_set, ht, List.map_set]
theorem Buf.ch {S : Nat → Prop} {w w' : World} {g cap : Nat} {xs : List ByteArray} (h : Buf w g cap xs) (hc : Ch S w w') (hs : ¬ S g) : Buf w' g cap xs := by
  obtain ⟨cur, hb, h1, h2⟩ := h.blk
  exact ⟨⟨cur, hc.blk hb hs, h1, h2⟩, h.le, h.max⟩
theorem own_buf {w : World} {B : Nat} {v : Value} {xs : List ByteArray} (h : OwnS w B v xs) (hx : xs ≠ []) : ∃ g cap, v = .slice (some ⟨g, 0, none⟩) xs.length cap ∧ B ≤ g ∧ Buf w g cap xs := by
  obtain ⟨_, ⟨_, h2⟩ | ⟨g, cap, cur, rfl, hb, hg, hn, hc, hs, ht⟩⟩ := h
  · exact absurd (List.length_eq_zero_iff.1 h2) hx
  · exact ⟨g, cap, rfl, hb, ⟨⟨cur, hg, by simpa using hs, by simpa using ht⟩, hn, hc⟩⟩
theorem buf_own {w : World} {B : Nat} {g cap : Nat} {xs : List ByteArray} (h : Buf w g cap xs) (hb : B ≤ g) : OwnS w B (.slice (some ⟨g, 0, none⟩) xs.length cap) xs := by
  obtain ⟨cur, hg, h1, h2⟩ := h.blk
  exact ⟨by simp, .inr ⟨g, cap, cur, rfl, hb, hg, h.le, h.max, by simpa using h1, by simpa using h2⟩⟩

/-- The first k of a list, turned. -/
def upTo (f : ByteArray → ByteArray) (xs : List ByteArray) (k : Nat) : List ByteArray := (xs.take k).map f ++ xs.drop k
theorem upTo_len (f : ByteArray → ByteArray) (xs : List ByteArray) (k : Nat) : (upTo f xs k).length = xs.length := by
  unfold upTo; rw [List.length_append, List.length_map, ← List.length_append, List.take_append_drop]
theorem upTo_get (f : ByteArray → ByteArray) (xs : List ByteArray) (k : Nat) (hk : k < xs.length) : (upTo f xs k)[k]'(by rw [upTo_len]; exact hk) = xs[k] := by
  unfold upTo
  rw [List.getElem_append_right (by rw [List.length_map, List.length_take]; omega)]
  simp only [List.length_map, List.length_take, List.getElem_drop]
  congr 1; omega
theorem upTo_next (f : ByteArray → ByteArray) (xs : List ByteArray) (k : Nat) (hk : k < xs.length) : (upTo f xs k).set k (f xs[k]) = upTo f xs (k + 1) := by
  unfold upTo
  rw [List.take_succ_eq_append_getElem hk, List.map_append, List.set_append_right _ _ (by rw [List.length_map, List.length_take]; omega)]
  rw [show k - ((xs.take k).map f).length = 0 by rw [List.length_map, List.length_take]; omega]
  have e : (xs.drop k).set 0 (f xs[k]) = f xs[k] :: xs.drop (k + 1) := by rw [List.drop_eq_getElem_cons hk, List.set_cons_zero]
  rw [e]
  simp only [List.map_cons, List.map_nil, List.append_assoc, List.cons_append, List.nil_append]
theorem upTo_all (f : ByteArray → ByteArray) (xs : List ByteArray) (k : Nat) (hk : xs.length ≤ k) : upTo f xs k = xs.map f := by
  unfold upTo; rw [List.take_of_length_le hk, List.drop_eq_nil_of_le hk]; simp
theorem upTo_same (f : ByteArray → ByteArray) (xs : List ByteArray) (k : Nat) (hk : k < xs.length) (h : f xs[k] = xs[k]) : upTo f xs k = upTo f xs (k + 1) := by
  rw [← upTo_next f xs k hk, h]
  apply List.ext_getElem?
  intro i
  rw [List.getElem?_set]
  split
  · rename_i e
    subst e
    rw [if_pos (by rw [upTo_len]; exact hk), List.getElem?_eq_getElem (by rw [upTo_len]; exact hk), upTo_get f xs k hk]
  · rfl
theorem upTo_zero (f : ByteArray → ByteArray) (xs : List ByteArray) : upTo f xs 0 = xs := by simp [upTo]

set_option maxRecDepth 100000 in
set_option maxHeartbeats 1000000 in
theorem closed_any (A : Option Addr) (c : Nat) (xs : List ByteArray) (w : World) (hx : El.str.Row w A c xs) (hb : xs.length * 16 ≤ 140737488355328) (hs : ∀ x ∈ xs, x.size ≤ 9223372036854775806) :
    Calls Tryd.prog 124 #[.slice A xs.length c] w fun e w' => ∃ v, e = .returned v ∧ OwnS w' w.heap.size v (xs.map closeL) ∧ Ch no w w' := by
  have hlx := hx.len
  have HX := Lib.hid hx; clear hx
  have HS := Lib.hid hs; clear hs
  go_enter Tryd.func124, Tryd.ntmps124
  go_wp2_with fail
  refine (clone_any A c xs _ HX.out hb).mono ?_
  rintro e w1 ⟨v, rfl, hown, hc⟩
  have HO := Lib.hid hown; have HC := Lib.hid hc; clear hown hc
  by_cases hne : xs = []
  · subst hne
    obtain ⟨A', c', rfl, _⟩ := El.Row.of_own HO.out
    go_wp2_with fail
    go_loopw [10] (fun i wr => i = .int .i64 0 ∧ w1 = wr) (fun _ _ => 0)
    case atStart => exact ⟨rfl, rfl⟩
    case round =>
      obtain ⟨rfl, rfl⟩ := hrel
      go_wp2_with fail
      go_ret
      exact ⟨_, rfl, by simpa using HO.out, HC.out⟩
  · obtain ⟨g, cap, rfl, hge, hbuf⟩ := own_buf HO.out hne
    have hz : 1 ≤ xs.length := by cases xs with
      | nil => exact absurd rfl hne
      | cons x r => simp
    have HB := Lib.hid hbuf; clear hbuf hne HO
    have hcap := HB.out.le
    have hcm : cap ≤ 9223372036854775807 := by have := HB.out.max; unfold maxLen at this; omega
    go_wp2_with fail
    go_loopw [10] (fun i wr => ∃ k : Nat, k ≤ xs.length ∧ i = .int .i64 k ∧ Hid (Buf wr g cap (upTo closeL xs k)) ∧ Hid (Ch no w wr)) (fun i _ => xs.length - (intOf i).toNat)
    case atStart => exact ⟨0, by omega, rfl, by rw [upTo_zero]; exact HB, HC⟩
    case round =>
      clear HB HC
      obtain ⟨k, hk, rfl, HB, HC⟩ := hrel
      by_cases hlt : k < xs.length
      · have hcell := HB.out.cell k (by rw [upTo_len]; exact hlt)
        rw [upTo_get closeL xs k hlt] at hcell
        have hfree := HB.out.free k
        have hsz := HS.out xs[k] (List.getElem_mem _)
        have HN := Lib.hid (upTo_next closeL xs k hlt)
        cases he : xs[k].toList.isEmpty with
        | true =>
          have h1 : xs[k].toList = [] := by simpa using he
          have h2 : (xs[k].toList == []) = true := by simp [h1]
          have HE := Lib.hid (show closeL xs[k] = xs[k] ++ ⟨#[10]⟩ by
            unfold closeL; rw [if_neg]; rw [endNl, h1]; simp)
          clear h1 he
          go_wp2_with fail
          go_roundw
          case rel => exact ⟨k + 1, by omega, by go_num, by rw [← HN.out, HE.out]; exact HB.out.set k (by rw [upTo_len]; exact hlt) _, HC.out.set (.inr hge) _⟩
          case measure => simp [intOf]; omega
        | false =>
          have h2 : (xs[k].toList == []) = false := by cases h : xs[k].toList <;> simp_all
          have HI := Lib.hid he; clear he
          cases hcl : endNl xs[k] with
          | true =>
            have HE := Lib.hid (upTo_same closeL xs k hlt (by unfold closeL; rw [if_pos hcl]))
            have HL := Lib.hid hcl
            clear hcl
            go_wp2_with fail
            refine (lclosed_any xs[k] _ (by omega)).mono ?_
            rw [HI.out, HL.out]
            rintro e w' ⟨rfl, rfl⟩
            go_wp2_with fail
            go_roundw
            case rel => exact ⟨k + 1, by omega, by go_num, by rw [← HE.out]; exact HB, HC⟩
            case measure => simp [intOf]; omega
          | false =>
            have HE := Lib.hid (show closeL xs[k] = xs[k] ++ ⟨#[10]⟩ by unfold closeL; rw [if_neg (by rw [hcl]; simp)])
            have HL := Lib.hid hcl
            clear hcl
            go_wp2_with fail
            refine (lclosed_any xs[k] _ (by omega)).mono ?_
            rw [HI.out, HL.out]
            rintro e w' ⟨rfl, rfl⟩
            go_wp2_with fail
            go_roundw
            case rel => exact ⟨k + 1, by omega, by go_num, by rw [← HN.out, HE.out]; exact HB.out.set k (by rw [upTo_len]; exact hlt) _, HC.out.set (.inr hge) _⟩
            case measure => simp [intOf]; omega
      · have HF := Lib.hid (upTo_all closeL xs k (by omega))
        go_wp2_with fail
        go_ret
        refine ⟨_, rfl, ?_, HC.out⟩
        have h := HB.out
        rw [HF.out] at h
        have := buf_own h hge
        simpa using this

end Go.Proofs.YtekeiieefkgopaaDoor.Mb
