/- Texts, line by line. -/
import Derived.Test.YtekeiieefkgopaaDoorNh
import Derived.Test.YtekeiieefkgopaaDoorSh
namespace Go.Proofs.YtekeiieefkgopaaDoor.No
open Go.RowKit Go.Proofs.YtekeiieefkgopaaDoor.Aa Go.Proofs.YtekeiieefkgopaaDoor.Vw Go.Proofs.YtekeiieefkgopaaDoor.Ma Go.Proofs.YtekeiieefkgopaaDoor.Mr Go.Proofs.YtekeiieefkgopaaDoor.Mb Go.Proofs.YtekeiieefkgopaaDoor.Mc Go.Proofs.YtekeiieefkgopaaDoor.Mj Go.Proofs.YtekeiieefkgopaaDoor.Na Go.Proofs.YtekeiieefkgopaaDoor.Nh
attribute [local go_sem] Oper.semAt_some
set_option linter.unusedVariables false
set_option linter.unusedSimpArgs false

/-- Where a text's first line ends. -/
def nlAt (s : ByteArray) : Nat := if 0 ≤ Lib.indexByte s.data.toList 10 then (Lib.indexByte s.data.toList 10).toNat + 1 else s.size
def splitN : Nat → ByteArray → List ByteArray
  | 0, _ => []
  | n + 1, s => if s.size = 0 then [] else s.extract 0 (nlAt s) :: splitN n (s.extract (nlAt s) s.size)
def splitS (s : ByteArray) : List ByteArray := splitN s.size s

theorem idx_lt (l : List UInt8) (c : UInt8) : Lib.indexByte l c < l.length ∨ l = [] := by
  induction l with
  | nil => exact .inr rfl
  | cons b r ih =>
    left
    simp only [Lib.indexByte, List.length_cons]
    split
    · omega
    · split
      · omega
      · rcases ih with h | h
        · omega
        · subst h; simp [Lib.indexByte] at *
theorem nlAt_le (s : ByteArray) : nlAt s ≤ s.size := by
  unfold nlAt
  split
  · rename_i h
    rcases idx_lt s.data.toList 10 with h1 | h1
    · have : s.data.toList.length = s.size := rfl
      omega
    · rw [h1] at h; simp [Lib.indexByte] at h
  · omega
theorem nlAt_pos (s : ByteArray) (h : s.size ≠ 0) : 0 < nlAt s := by
  unfold nlAt
  split <;> omega

/-- The iterator between two rounds. -/
structure ItS (w0 w : World) (b : Nat) (J : List ByteArray → World → Prop) (xs : List ByteArray) (n : Nat) (s : ByteArray) (pre : List ByteArray) : Prop where
  eq : xs = pre ++ splitN n s
  le : s.size ≤ n
  j : J pre w
  blk : w.heap[b]? = some (.cells #[.string s] 9 (0, 0))
  sz : w0.heap.size ≤ w.heap.size

set_option maxRecDepth 100000 in
set_option maxHeartbeats 4000000 in
theorem each_iter (n b : Nat) (U : Nat → Prop) (s : ByteArray) (w : World) (hblk : w.heap[b]? = some (.cells #[.string s] 9 (0, 0))) (hs : s.size ≤ 1000000000) (hU : ¬ U b) :
    Iter Fence.wide n Tryd.prog 132 #[.pointer (some ⟨b, 0, none⟩)] (fun x : ByteArray => #[.string x]) (one b) U (splitS s) w := by
  intro l J W hW hJ hY hJ0
  refine callsIn_wide.2 ?_
  have HJ := Lib.hid hJ; have HY := Lib.hid hY; have HU := Lib.hid hU
  have HI : Hid (ItS w W b J (splitS s) s.size s []) := Lib.hid ⟨rfl, Nat.le_refl _, hJ0, hW.blk hblk (no_not _), hW.size⟩
  clear hJ hY hU hblk hW hJ0
  go_enter Tryd.func132, Tryd.ntmps132
  go_wp2_with fail
  go_loopg [3] s.size (fun k _ wr => ∃ (r : ByteArray) (pre : List ByteArray), r.size ≤ 1000000000 ∧ Hid (ItS w wr b J (splitS s) k r pre))
  case atStart => exact ⟨s, [], hs, HI⟩
  case round =>
    clear HI
    obtain ⟨r, pre, hr, HI⟩ := hrel
    have hc0 := (bCell HI.out.blk 0).trans rfl
    by_cases h0 : r.size = 0
    · have hem : r.toList.isEmpty = true := by rw [ByteArray.toList_eq, List.isEmpty_iff]; exact List.length_eq_zero_iff.1 h0
      have HE := Lib.hid (show splitN gk r = [] by cases gk <;> simp [splitN, h0])
      clear h0
      go_wp2_with fail
      go_end0
      refine ⟨⟨_, rfl⟩, ?_⟩
      have h := HI.out.eq
      rw [HE.out, List.append_nil] at h
      rw [h]
      exact HI.out.j
    · have hem : r.toList.isEmpty = false := by
        cases hh : r.toList.isEmpty with
        | false => rfl
        | true => rw [ByteArray.toList_eq, List.isEmpty_iff] at hh; exact absurd (congrArg List.length hh) h0
      have H0 := Lib.hid h0
      have hle := nlAt_le r
      have hps := nlAt_pos r h0
      have hge := Lib.indexByte_ge r.data.toList 10
      have HNL : Hid (nlAt r = if 0 ≤ Lib.indexByte r.data.toList 10 then (Lib.indexByte r.data.toList 10).toNat + 1 else r.size) := Lib.hid rfl
      obtain ⟨m, hm⟩ : ∃ m, gk = m + 1 := ⟨gk - 1, by have := HI.out.le; omega⟩
      subst hm
      have HSP : Hid (splitN (m + 1) r = r.extract 0 (nlAt r) :: splitN m (r.extract (nlAt r) r.size)) := Lib.hid (by simp [splitN, h0])
      clear h0
      go_wp2_with fail
      refine (Tryd.strings_Index_one r 10 _).mono ?_
      rintro e w1 ⟨rfl, hw⟩
      rw [hw]
      clear hw w1
      obtain ⟨ix, hix⟩ : ∃ ix, Lib.indexByte r.data.toList 10 = ix := ⟨_, rfl⟩
      rw [hix] at hge HNL ⊢
      have hil : ix < 1000000000 := by
        rcases idx_lt r.data.toList 10 with h | h
        · rw [hix] at h
          have : r.data.toList.length = r.size := rfl
          omega
        · exact absurd (congrArg List.length h) H0.out
      clear hix
      obtain ⟨nn, hnn⟩ : ∃ nn, nlAt r = nn := ⟨_, rfl⟩
      rw [hnn] at hle hps HNL HSP
      clear hnn
      go_upto_if 10 with (fail)
      go_cut [3] (fun v3 wc => v3 = .int .i64 nn ∧ Hid (wc = wr))
      case first =>
        have hnn := HNL.out
        split at hnn
        · have hz : ((ix + 1 : Int) == 0) = false := by rw [beq_eq_false_iff_ne]; omega
          have hi : ix + 1 = nn := by omega
          rw [hi] at hz ⊢
          clear hi hnn
          go_wp2_with fail
          go_meet
          exact ⟨rfl, Lib.hid rfl⟩
        · have hz : ((ix + 1 : Int) == 0) = true := by rw [beq_iff_eq]; omega
          have hi : nn = r.size := by omega
          subst hi
          clear hnn
          go_wp2_with fail
          go_meet
          exact ⟨rfl, Lib.hid rfl⟩
      case rest => 
        obtain ⟨rfl, HWC⟩ := hcut
        have hwc := HWC.out
        subst hwc
        have hxs := HI.out.eq
        rw [HSP.out] at hxs
        obtain ⟨fn, tmps, assign, body, hy, hR⟩ := HY.out pre (r.extract 0 nn) wc HI.out.j ⟨_, hxs⟩
        have HXS := Lib.hid hxs
        clear hxs
        go_upto_region 4 with (fail)
        refine (wpIn_wide (n := n)).1 ?_
        gi_wp2_with fail
        refine ⟨fun h => (by simp [Fence.wide] at h), hR.mono ?_⟩
        rintro e W3 ⟨rfl, hJ3, hU3⟩
        have HJ3 := Lib.hid hJ3; have HU3 := Lib.hid hU3
        clear hJ3 hU3 hR hy hc0
        have hb3 := HU3.out.blk HI.out.blk HU.out
        have hc3 := (bCell hb3 0).trans rfl
        have hf3 := bFree hb3 0
        have HB3 := Lib.hid hb3
        clear hb3
        gi_wp2_with fail
        go_wp2_with fail
        go_roundg m
        case rel =>
          have hsz : (r.extract nn r.size).size ≤ m := by
            have := HI.out.le
            simp only [ByteArray.size_extract]
            omega
          refine ⟨r.extract nn r.size, pre ++ [r.extract 0 nn], by simp only [ByteArray.size_extract]; omega, Lib.hid ⟨by rw [HXS.out]; simp, hsz, ?_, bSet HB3.out 0 _, ?_⟩⟩
          · exact HJ.out _ _ _ HJ3.out (Ch.set1 W3 b 0 _)
          · exact Nat.le_trans (Nat.le_trans HI.out.sz HU3.out.size) (Ch.set1 W3 b 0 (.string (r.extract nn r.size))).size
        case measure => omega

set_option maxRecDepth 100000 in
set_option maxHeartbeats 4000000 in
theorem each_of (s : ByteArray) (w : World) :
    Calls Tryd.prog 111 #[.string s] w fun e w' => e = .returned (.func (.func 132) #[] #[.pointer (some ⟨w.heap.size, 0, none⟩)]) ∧ w'.heap[w.heap.size]? = some (.cells #[.string s] 9 (0, 0)) ∧ Ch no w w' := by
  have hb := Lib.hid (al1 w (.cells #[.string s] 9))
  go_enter Tryd.func111, Tryd.ntmps111
  go_wp2_with fail
  go_ret
  exact ⟨rfl, hb.out, (Ch.refl no w).alloc _⟩

end Go.Proofs.YtekeiieefkgopaaDoor.No
