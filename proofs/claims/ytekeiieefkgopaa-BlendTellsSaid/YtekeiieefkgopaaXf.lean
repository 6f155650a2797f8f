/- What becomes of one path: walked. tree.find, tree.Get, blend.of: walked. -/
import Derived.Test.YtekeiieefkgopaaXe
import Derived.Test.YtekeiieefkgopaaXa
import Derived.Laws.StructEq
import Derived.Handy
namespace Go.Proofs.Ytekeiieefkgopaa.Be
open Go.RowKit Go.Proofs.Ytekeiieefkgopaa.Aa Go.Proofs.Ytekeiieefkgopaa.Vw Go.Proofs.Ytekeiieefkgopaa.Mb Go.Proofs.Ytekeiieefkgopaa.Na Go.Proofs.Ytekeiieefkgopaa.No Go.Proofs.Ytekeiieefkgopaa.Nq Go.Proofs.Ytekeiieefkgopaa.Ba Go.Proofs.Ytekeiieefkgopaa.Bc
set_option linter.unusedVariables false
set_option linter.unusedSimpArgs false

abbrev At.val (x : At) : Value := .agg #[.string x.text, .bool x.is]
theorem at_eq (x y : At) (w : World) : (binOp .eql 40 (.agg #[.string x.text, .bool x.is]) (.agg #[.string y.text, .bool y.is])).run Try.prog w = .ok (.bool (decide (x = y))) w := by
  obtain ⟨s, b⟩ := x
  obtain ⟨t, c⟩ := y
  have u1 := Try.underlying9
  have a1 := Try.isAgg9
  have z1 := Try.sizeOf9
  have u2 := Try.underlying4
  have a2 := Try.isAgg4
  have z2 := Try.sizeOf4
  have hS : (Try.prog).underlying 40 = some (.struct ((Try.prog).fieldsOf 40)) := by kernel_rfl
  have hp : (Try.prog).stoodInHeld 40 = false := by kernel_rfl
  rw [run_eql_struct, show (10000 : Nat) = 9999 + 1 from rfl, run_equalIn_agg w 9999 40 _ _ hS hp]
  simp only [Program.fieldsOf, Try.underlying40]
  go_simp
  by_cases h1 : s = t
  · subst h1
    by_cases h2 : b = c
    · subst h2; simp
    · simp [h2]
  · have h3 : ¬ s.toList = t.toList := fun h => h1 (by
      rw [ByteArray.toList_eq, ByteArray.toList_eq] at h
      exact ByteArray.ext (Array.toList_inj.1 h))
    simp [h1, h3]

end Go.Proofs.Ytekeiieefkgopaa.Be
namespace Go.Proofs.Ytekeiieefkgopaa.Bh
open Go.RowKit Go.Proofs.Ytekeiieefkgopaa.Aa Go.Proofs.Ytekeiieefkgopaa.Vw Go.Proofs.Ytekeiieefkgopaa.Mb Go.Proofs.Ytekeiieefkgopaa.Na Go.Proofs.Ytekeiieefkgopaa.Nb Go.Proofs.Ytekeiieefkgopaa.No Go.Proofs.Ytekeiieefkgopaa.Nq Go.Proofs.Ytekeiieefkgopaa.Ba Go.Proofs.Ytekeiieefkgopaa.Bc
set_option linter.unusedVariables false
set_option linter.unusedSimpArgs false

theorem find_of (A : Option Addr) (c : Nat) (t : List Fl) (p : ByteArray) (w : World) (ht : file.Row w A c t) (hr : Rise t) (hn : t.length ≤ 1000000) :
    Calls Try.prog 28 #[.slice A t.length c, .string p] w fun e w' => e = .returned (.tuple #[.int .i64 (cntF t p), .bool (getF t p).isSome]) ∧ Ch no w w' := by
  have HB := Lib.hid (bsearch_of A c t p w ht hr hn)
  obtain ⟨n, hn2⟩ : ∃ n, cntF t p = n := ⟨_, rfl⟩
  obtain ⟨b, hb2⟩ : ∃ b, (getF t p).isSome = b := ⟨_, rfl⟩
  rw [hn2, hb2] at HB ⊢
  clear hn2 hb2 ht hr
  go_enter Try.func28, Try.ntmps28
  go_wp2_with fail
  refine HB.out.mono ?_
  rintro e w' ⟨rfl, hc⟩
  have HC := Lib.hid hc
  clear hc HB
  go_wp2_with fail
  go_ret2
  exact ⟨rfl, HC.out⟩
set_option maxHeartbeats 1000000 in
theorem get_of (A : Option Addr) (c : Nat) (t : List Fl) (p : ByteArray) (w : World) (ht : file.Row w A c t) (hr : Rise t) (hn : t.length ≤ 1000000) :
    Calls Try.prog 24 #[.slice A t.length c, .string p] w fun e w' => e = .returned (.tuple #[.string (ofF t p).text, .bool (ofF t p).is]) ∧ Ch no w w' := by
  have HB := Lib.hid (find_of A c t p w ht hr hn)
  have hg := Ba.get_at hr p
  have hle := ht.le
  have HT := Lib.hid ht
  cases hgv : getF t p with
  | none =>
    have HO : Hid (ofF t p = ⟨ByteArray.empty, false⟩) := Lib.hid (by unfold ofF; rw [hgv])
    rw [hgv] at HB
    clear hg hgv
    go_enter Try.func24, Try.ntmps24
    go_wp2_with fail
    refine HB.out.mono ?_
    rintro e w' ⟨rfl, hc⟩
    have HC := Lib.hid hc
    clear hc HB
    go_wp2_with fail
    go_ret2
    rw [HO.out]
    exact ⟨rfl, HC.out⟩
  | some s =>
    have HO : Hid (ofF t p = ⟨s, true⟩) := Lib.hid (by unfold ofF; rw [hgv])
    rw [hgv] at HB hg
    have hlt : cntF t p < t.length := by
      rcases Nat.lt_or_ge (cntF t p) t.length with h | h
      · exact h
      · rw [dif_neg (by omega)] at hg; cases hg
    rw [dif_pos hlt] at hg
    have hs : t[cntF t p].text = s := by
      split at hg
      · exact (Option.some.inj hg).symm
      · cases hg
    obtain ⟨n, hlt2, hn2, hs2⟩ : ∃ n, ∃ h : n < t.length, cntF t p = n ∧ t[n].text = s := ⟨_, hlt, rfl, hs⟩
    rw [hn2] at HB
    have HS := Lib.hid hs2
    clear hg hgv hn2 hs hs2 hlt
    go_enter Try.func24, Try.ntmps24
    go_wp2_with fail
    refine HB.out.mono ?_
    rintro e w' ⟨rfl, hc⟩
    obtain ⟨ad, rfl, c0, c1⟩ := file_at (HT.out.ch hc) n hlt2
    rw [HS.out] at c1
    have HC := Lib.hid hc
    clear hc HB c0
    go_wp2_with fail
    go_ret2
    rw [HO.out]
    exact ⟨rfl, HC.out⟩
set_option maxHeartbeats 1000000 in
theorem of_of (A : Option Addr) (c : Nat) (t : List Fl) (p : ByteArray) (w : World) (ht : file.Row w A c t) (hr : Rise t) (hn : t.length ≤ 1000000) :
    Calls Try.prog 17 #[.slice A t.length c, .string p] w fun e w' => e = .returned (.agg #[.string (ofF t p).text, .bool (ofF t p).is]) ∧ Ch no w w' := by
  have HB := Lib.hid fun W h => get_of A c t p W h hr hn
  have HT := Lib.hid ht
  obtain ⟨r, hr2⟩ : ∃ r, ofF t p = r := ⟨_, rfl⟩
  obtain ⟨tx, is⟩ := r
  rw [hr2] at HB ⊢
  have hb := al1 w (.cells #[.string ByteArray.empty, .bool false] 40)
  have HBK := Lib.hid hb
  obtain ⟨g, hg⟩ : ∃ g, w.heap.size = g := ⟨_, rfl⟩
  have HG := Lib.hid hg
  clear ht hr hr2 hb hg
  go_enter Try.func17, Try.ntmps17
  go_wp2_with fail
  refine (HB.out _ (HT.out.ch ((Ch.refl no w).alloc _))).mono ?_
  rintro e w1 ⟨rfl, hc⟩
  have hb1 := hc.blk HBK.out (no_not _)
  rw [HG.out] at hb1 ⊢
  have hc0 := fun i => bCell hb1 i
  have hf0 := fun i => bFree hb1 i
  have HC := Lib.hid hc; have HB1 := Lib.hid hb1
  clear hc hb1 HB
  go_wp2_with fail
  have hx := bSet (bSet HB1.out 0 (.string tx)) 1 (.bool is)
  simp only [List.setIfInBounds_toArray, List.set_cons_zero, List.set_cons_succ] at hx
  have hq := ((Ch.refl no w).alloc (.cells #[.string ByteArray.empty, .bool false] 40)).same HC.out
  have hy : Ch no w ((w1.setCell ⟨g, 0, none⟩ (.string tx)).setCell ⟨g, 1, none⟩ (.bool is)) := by
    have hgs := HG.out
    exact (hq.set (p := ⟨g, 0, none⟩) (.inr (by simp; omega)) _).set (p := ⟨g, 1, none⟩) (.inr (by simp; omega)) _
  have HX := Lib.hid hx; have HY := Lib.hid hy
  clear hx hy hq hc0 hf0
  have c0 := (bCell HX.out 0).trans rfl
  have c1 := (bCell HX.out 1).trans rfl
  exact bodyPost_ret (v := .agg #[.string tx, .bool is]) (by simp [results, Try.results17, go_sem, c0, c1]) rfl ⟨rfl, HY.out⟩

end Go.Proofs.Ytekeiieefkgopaa.Bh
