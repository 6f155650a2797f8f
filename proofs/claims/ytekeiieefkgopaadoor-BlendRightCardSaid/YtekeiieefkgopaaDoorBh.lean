/- tree.find, tree.Get, blend.of: walked. -/
import Derived.Test.YtekeiieefkgopaaDoorBc
import Derived.Handy
namespace Go.Proofs.YtekeiieefkgopaaDoor.Bh
open Go.RowKit Go.Proofs.YtekeiieefkgopaaDoor.Aa Go.Proofs.YtekeiieefkgopaaDoor.Vw Go.Proofs.YtekeiieefkgopaaDoor.Mb Go.Proofs.YtekeiieefkgopaaDoor.Na Go.Proofs.YtekeiieefkgopaaDoor.Nb Go.Proofs.YtekeiieefkgopaaDoor.No Go.Proofs.YtekeiieefkgopaaDoor.Nq Go.Proofs.YtekeiieefkgopaaDoor.Ba Go.Proofs.YtekeiieefkgopaaDoor.Bc
set_option linter.unusedVariables false
set_option linter.unusedSimpArgs false

theorem find_of (A : Option Addr) (c : Nat) (t : List Fl) (p : ByteArray) (w : World) (ht : file.Row w A c t) (hr : Rise t) (hn : t.length ≤ 1000000) :
    Calls Tryd.prog 39 #[.slice A t.length c, .string p] w fun e w' => e = .returned (.tuple #[.int .i64 (cntF t p), .bool (getF t p).isSome]) ∧ Ch no w w' := by
  have HB := Lib.hid (bsearch_of A c t p w ht hr hn)
  obtain ⟨n, hn2⟩ : ∃ n, cntF t p = n := ⟨_, rfl⟩
  obtain ⟨b, hb2⟩ : ∃ b, (getF t p).isSome = b := ⟨_, rfl⟩
  rw [hn2, hb2] at HB ⊢
  clear hn2 hb2 ht hr
  go_enter Tryd.func39, Tryd.ntmps39
  go_wp2_with fail
  refine HB.out.mono ?_
  rintro e w' ⟨rfl, hc⟩
  have HC := Lib.hid hc
  clear hc HB
  go_wp2_with fail
  go_ret2
  exact ⟨rfl, HC.out⟩
set_option maxHeartbeats 1000000 in
theorem get_of (A : Option Addr) (c : Nat) (t : List Fl) (p : ByteArray) (w : World) (ht : file.Row w A c t) (hr : Rise t) (hn : t.length ≤ 1000000) :
    Calls Tryd.prog 15 #[.slice A t.length c, .string p] w fun e w' => e = .returned (.tuple #[.string (ofF t p).text, .bool (ofF t p).is]) ∧ Ch no w w' := by
  have HB := Lib.hid (find_of A c t p w ht hr hn)
  have hg := Ba.get_at hr p
  have hle := ht.le
  have HT := Lib.hid ht
  cases hgv : getF t p with
  | none =>
    have HO : Hid (ofF t p = ⟨ByteArray.empty, false⟩) := Lib.hid (by unfold ofF; rw [hgv])
    rw [hgv] at HB
    clear hg hgv
    go_enter Tryd.func15, Tryd.ntmps15
    go_wp2_with fail
    refine HB.out.mono ?_
    rintro e w' ⟨rfl, hc⟩
    have HC := Lib.hid hc
    clear hc HB
    go_wp2_with fail
    go_ret2
    rw [HO.out]
    exact ⟨rfl, HC.out⟩
  | some s =>
    have HO : Hid (ofF t p = ⟨s, true⟩) := Lib.hid (by unfold ofF; rw [hgv])
    rw [hgv] at HB hg
    have hlt : cntF t p < t.length := by
      rcases Nat.lt_or_ge (cntF t p) t.length with h | h
      · exact h
      · rw [dif_neg (by omega)] at hg; cases hg
    rw [dif_pos hlt] at hg
    have hs : t[cntF t p].text = s := by
      split at hg
      · exact (Option.some.inj hg).symm
      · cases hg
    obtain ⟨n, hlt2, hn2, hs2⟩ : ∃ n, ∃ h : n < t.length, cntF t p = n ∧ t[n].text = s := ⟨_, hlt, rfl, hs⟩
    rw [hn2] at HB
    have HS := Lib.hid hs2
    clear hg hgv hn2 hs hs2 hlt
    go_enter Tryd.func15, Tryd.ntmps15
    go_wp2_with fail
    refine HB.out.mono ?_
    rintro e w' ⟨rfl, hc⟩
    obtain ⟨ad, rfl, c0, c1⟩ := file_at (HT.out.ch hc) n hlt2
    rw [HS.out] at c1
    have HC := Lib.hid hc
    clear hc HB c0
    go_wp2_with fail
    go_ret2
    rw [HO.out]
    exact ⟨rfl, HC.out⟩
set_option maxHeartbeats 1000000 in
theorem of_of (A : Option Addr) (c : Nat) (t : List Fl) (p : ByteArray) (w : World) (ht : file.Row w A c t) (hr : Rise t) (hn : t.length ≤ 1000000) :
    Calls Tryd.prog 37 #[.slice A t.length c, .string p] w fun e w' => e = .returned (.agg #[.string (ofF t p).text, .bool (ofF t p).is]) ∧ Ch no w w' := by
  have HB := Lib.hid fun W h => get_of A c t p W h hr hn
  have HT := Lib.hid ht
  obtain ⟨r, hr2⟩ : ∃ r, ofF t p = r := ⟨_, rfl⟩
  obtain ⟨tx, is⟩ := r
  rw [hr2] at HB ⊢
  have hb := al1 w (.cells #[.string ByteArray.empty, .bool false] 59)
  have HBK := Lib.hid hb
  obtain ⟨g, hg⟩ : ∃ g, w.heap.size = g := ⟨_, rfl⟩
  have HG := Lib.hid hg
  clear ht hr hr2 hb hg
  go_enter Tryd.func37, Tryd.ntmps37
  go_wp2_with fail
  refine (HB.out _ (HT.out.ch ((Ch.refl no w).alloc _))).mono ?_
  rintro e w1 ⟨rfl, hc⟩
  have hb1 := hc.blk HBK.out (no_not _)
  rw [HG.out] at hb1 ⊢
  have hc0 := fun i => bCell hb1 i
  have hf0 := fun i => bFree hb1 i
  have HC := Lib.hid hc; have HB1 := Lib.hid hb1
  clear hc hb1 HB
  go_wp2_with fail
  have hx := bSet (bSet HB1.out 0 (.string tx)) 1 (.bool is)
  simp only [List.setIfInBounds_toArray, List.set_cons_zero, List.set_cons_succ] at hx
  have hq := ((Ch.refl no w).alloc (.cells #[.string ByteArray.empty, .bool false] 59)).same HC.out
  have hy : Ch no w ((w1.setCell ⟨g, 0, none⟩ (.string tx)).setCell ⟨g, 1, none⟩ (.bool is)) := by
    have hgs := HG.out
    exact (hq.set (p := ⟨g, 0, none⟩) (.inr (by simp; omega)) _).set (p := ⟨g, 1, none⟩) (.inr (by simp; omega)) _
  have HX := Lib.hid hx; have HY := Lib.hid hy
  clear hx hy hq hc0 hf0
  have c0 := (bCell HX.out 0).trans rfl
  have c1 := (bCell HX.out 1).trans rfl
  exact bodyPost_ret (v := .agg #[.string tx, .bool is]) (by simp [results, Tryd.results37, go_sem, c0, c1]) rfl ⟨rfl, HY.out⟩

end Go.Proofs.YtekeiieefkgopaaDoor.Bh
