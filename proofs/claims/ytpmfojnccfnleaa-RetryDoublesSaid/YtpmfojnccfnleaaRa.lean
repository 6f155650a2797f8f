/- Contracts of the functions of the package retry. -/
import Derived.Test.YtpmfojnccfnleaaChecked
import Derived.WalkKit
import Derived.RegionTactic
import Derived.ChangeAlike
import Derived.Deep.RegionWith
import Derived.BigQuiet
import Derived.Deep.QuietTactic
import Derived.Lib.Hide
import Derived.Outline
import Derived.Test.YtpmfojnccfnleaaAa
namespace Go.Proofs.Ytpmfojnccfnleaa.Ra
open Go.RowKit
open Go.Proofs.Ytpmfojnccfnleaa.Aa
attribute [local go_sem] mx2 mn2 mxOp mnOp
set_option linter.unusedVariables false
set_option linter.unusedSimpArgs false

theorem one_self (g : Nat) {a : World} : one g g ∨ a.heap.size ≤ g := .inl rfl
/-- A state at block g. -/
def St (T : Nat) (w : World) (g : Nat) (a b c d : Int) : Prop := w.heap[g]? = some (.cells #[.int .i64 a, .int .i64 b, .int .i64 c, .int .i64 d] T (0, 0))
theorem St.cells {T : Nat} {w : World} {g : Nat} {a b c d : Int} (h : St T w g a b c d) :
    w.cell? ⟨g, 0, none⟩ = some (.int .i64 a) ∧ w.cell? ⟨g, 1, none⟩ = some (.int .i64 b) ∧ w.cell? ⟨g, 2, none⟩ = some (.int .i64 c) ∧ w.cell? ⟨g, 3, none⟩ = some (.int .i64 d) :=
  ⟨(bCell h 0).trans rfl, (bCell h 1).trans rfl, (bCell h 2).trans rfl, (bCell h 3).trans rfl⟩
theorem St.frozen {T : Nat} {w : World} {g : Nat} {a b c d : Int} (h : St T w g a b c d) (i : Nat) : w.frozen? ⟨g, i, none⟩ = false := bFree h i
theorem St.set2 {T : Nat} {w : World} {g : Nat} {a b c d : Int} (h : St T w g a b c d) (x : Int) : St T (w.setCell ⟨g, 2, none⟩ (.int .i64 x)) g a b x d := by
  simpa [St] using bSet h 2 (.int .i64 x)
theorem St.set3 {T : Nat} {w : World} {g : Nat} {a b c d : Int} (h : St T w g a b c d) (x : Int) : St T (w.setCell ⟨g, 3, none⟩ (.int .i64 x)) g a b c x := by
  simpa [St] using bSet h 3 (.int .i64 x)
theorem St.drew {T : Nat} {w : World} {g : Nat} {a b c d : Int} (h : St T w g a b c d) : St T w.drew g a b c d := h
theorem St.drewN {T : Nat} {w : World} {g : Nat} {a b c d : Int} (h : St T w g a b c d) (n : Nat) : St T (w.drewN n) g a b c d := h
theorem St.ch {T : Nat} {w w' : World} {g : Nat} {a b c d : Int} {S : Nat → Prop} (h : St T w g a b c d) (hc : Ch S w w') (hs : ¬ S g) : St T w' g a b c d := hc.blk h hs

theorem next_any (a b n : Int) (w : World) (h0 : 0 ≤ n) (h1 : n ≤ 1073741824) :
    Calls Try.prog 56 #[.agg #[.int .i64 a, .int .i64 b], .int .i64 n] w fun e w' => e = .returned (.int .i64 (min (2 * n) b)) ∧ Below w.heap.size w w' := by
  go_enter Try.func56, Try.ntmps56
  go_wp2
  all_goals
    go_ret
    exact ⟨by congr 2; simp [Int.min_def]; omega, (Below.refl _ _).alloc (Nat.le_refl _) _⟩

theorem reset_any (a b c d : Int) (g : Nat) (w : World) (h : St 78 w g a b c d) :
    Calls Try.prog 20 #[.pointer (some ⟨g, 0, none⟩)] w fun e w' => e = .returned (.tuple #[]) ∧ St 78 w' g a b a a ∧ Ch (one g) w w' := by
  obtain ⟨c0, c1, c2, c3⟩ := h.cells
  have f0 := h.frozen 0
  have f1 := h.frozen 1
  have f2 := h.frozen 2
  have f3 := h.frozen 3
  go_enter Try.func20, Try.ntmps20
  go_wp2
  go_region
  all_goals
    go_end0
    exact ⟨rfl, ((h.set2 a).set3 a).drew, by repeat (first | exact Ch.refl _ _ | apply Ch.drew | apply Ch.drewN | apply Ch.alloc | refine Ch.set ?_ (.inl (rfl : one g g)) _)⟩

theorem tick_no (a b c d n : Int) (g : Nat) (w : World) (h : St 78 w g a b c d) (hn : n < d) (h0 : 0 ≤ d) (h1 : d ≤ 1073741824) :
    Calls Try.prog 22 #[.pointer (some ⟨g, 0, none⟩), .int .i64 n] w fun e w' => e = .returned (.bool false) ∧ St 78 w' g a b c (d - max 0 n) ∧ Ch (one g) w w' := by
  obtain ⟨c0, c1, c2, c3⟩ := h.cells
  have f0 := h.frozen 0
  have f1 := h.frozen 1
  have f2 := h.frozen 2
  have f3 := h.frozen 3
  by_cases hneg : n ≤ 0
  · have e : max 0 n = 0 := by omega
    have E := Lib.hid e
    clear e
    rw [E.out]
    go_enter Try.func22, Try.ntmps22
    go_wp2_with fail
    all_goals go_ret
    all_goals exact ⟨rfl, by simpa using h.set3 d, by repeat (first | exact Ch.refl _ _ | refine Ch.set ?_ (.inl (rfl : one g g)) _)⟩
  · have e : max 0 n = n := by omega
    have E := Lib.hid e
    clear e
    rw [E.out]
    go_enter Try.func22, Try.ntmps22
    go_wp2_with fail
    all_goals go_ret
    all_goals exact ⟨rfl, h.set3 _, by repeat (first | exact Ch.refl _ _ | refine Ch.set ?_ (.inl (rfl : one g g)) _)⟩

/-- The wait behind another one. -/
def nextW (c b : Int) : Int := min (2 * c) b
theorem next_w (a b n : Int) (w : World) (h0 : 0 ≤ n) (h1 : n ≤ 1073741824) :
    Calls Try.prog 56 #[.agg #[.int .i64 a, .int .i64 b], .int .i64 n] w fun e w' => e = .returned (.int .i64 (nextW n b)) ∧ Below w.heap.size w w' := next_any a b n w h0 h1

theorem tick_yes (a b c d n : Int) (g : Nat) (w : World) (h : St 78 w g a b c d) (hn : d ≤ n) (h0 : 0 ≤ c) (h1 : c ≤ 1073741824) :
    Calls Try.prog 22 #[.pointer (some ⟨g, 0, none⟩), .int .i64 n] w fun e w' => e = .returned (.bool true) ∧ St 78 w' g a b (nextW c b) (nextW c b) ∧ Ch (one g) w w' := by
  obtain ⟨c0, c1, c2, c3⟩ := h.cells
  have f0 := h.frozen 0
  have f1 := h.frozen 1
  have f2 := h.frozen 2
  have f3 := h.frozen 3
  have hlt := blk_lt' h
  have hn' : ¬ n < d := by omega
  go_enter Try.func22, Try.ntmps22
  go_wp2_with fail
  go_region_with (go_at_call 56; refine (next_w _ _ _ _ (by omega) (by omega)).mono ?_; rintro e w' ⟨rfl, hb⟩; have h1 := St.ch (S := no) (w := w.drew) h (Ch.of_below hb) (no_not _); have f1' := h1.frozen 1; have f2' := h1.frozen 2; have f3' := h1.frozen 3; obtain ⟨c0', c1', c2', c3'⟩ := h1.cells; have H1 := Lib.hid h1; have HB := Lib.hid hb; clear h1 hb)
  all_goals
    go_wp2
    go_ret
    exact ⟨rfl, (H1.out.set2 _).set3 _, (((Ch.refl _ w).drew.step HB.out).set (.inl (rfl : one g g)) _).set (.inl (rfl : one g g)) _⟩

theorem wait_any (a b c d : Int) (g : Nat) (w : World) (h : St 78 w g a b c d) :
    Calls Try.prog 24 #[.pointer (some ⟨g, 0, none⟩)] w fun e w' => e = .returned (.int .i64 c) ∧ w = w' := by
  obtain ⟨c0, c1, c2, c3⟩ := h.cells
  go_enter Try.func24, Try.ntmps24
  go_wp2
  go_ret
  exact ⟨rfl, rfl⟩

theorem left_any (a b c d : Int) (g : Nat) (w : World) (h : St 78 w g a b c d) :
    Calls Try.prog 25 #[.pointer (some ⟨g, 0, none⟩)] w fun e w' => e = .returned (.int .i64 d) ∧ w = w' := by
  obtain ⟨c0, c1, c2, c3⟩ := h.cells
  go_enter Try.func25, Try.ntmps25
  go_wp2
  go_ret
  exact ⟨rfl, rfl⟩


theorem new_no (a b : Int) (w : World) (h : a < 1 ∨ a > b ∨ b > 1073741824) :
    Calls Try.prog 18 #[.int .i64 a, .int .i64 b] w fun e w' => e = .returned (.tuple #[.pointer none, .int .i64 1]) ∧ w = w' := by
  by_cases h1 : a < 1
  · go_enter Try.func18, Try.ntmps18
    go_wp2_with fail
    go_ret2
    exact ⟨rfl, rfl⟩
  · by_cases h2 : b < a
    · go_enter Try.func18, Try.ntmps18
      go_wp2_with fail
      go_ret2
      exact ⟨rfl, rfl⟩
    · have h3 : 1073741824 < b := by omega
      clear h
      go_enter Try.func18, Try.ntmps18
      go_wp2_with fail
      go_ret2
      exact ⟨rfl, rfl⟩

theorem new_yes (a b : Int) (w : World) (h1 : 1 ≤ a) (h2 : a ≤ b) (h3 : b ≤ 1073741824) :
    Calls Try.prog 18 #[.int .i64 a, .int .i64 b] w fun e w' => e = .returned (.tuple #[.pointer (some ⟨w.heap.size, 0, none⟩), .int .i64 0]) ∧ St 78 w' w.heap.size a b a a ∧ Ch no w w' := by
  go_enter Try.func18, Try.ntmps18
  go_wp2_with fail
  refine (reset_any a b 0 0 _ _ ?_).mono ?_
  · exact bNew _ _
  · rintro e w' ⟨rfl, hs, hc⟩
    go_wp2_with fail
    go_ret2
    exact ⟨rfl, hs, ((Ch.refl _ _).alloc _).trans hc (fun i hi h => by have : i = w.heap.size := h; omega)⟩

theorem rreset_any (a b c d : Int) (g : Nat) (w : World) (h : St 33 w g a b c d) :
    Calls Try.prog 21 #[.pointer (some ⟨g, 0, none⟩)] w fun e w' => e = .returned (.tuple #[]) ∧ St 33 w' g a b a a ∧ Ch (one g) w w' := by
  obtain ⟨c0, c1, c2, c3⟩ := h.cells
  have f0 := h.frozen 0
  have f1 := h.frozen 1
  have f2 := h.frozen 2
  have f3 := h.frozen 3
  go_enter Try.func21, Try.ntmps21
  go_wp2
  go_end0
  exact ⟨rfl, (h.set2 a).set3 a, by repeat (first | exact Ch.refl _ _ | apply Ch.drew | apply Ch.drewN | apply Ch.alloc | refine Ch.set ?_ (.inl (rfl : one g g)) _)⟩

theorem rnew_no (a b : Int) (w : World) (h : a < 1 ∨ a > b ∨ b > 1073741824) :
    Calls Try.prog 19 #[.int .i64 a, .int .i64 b] w fun e w' => e = .returned (.pointer none) ∧ w = w' := by
  by_cases h1 : a < 1
  · go_enter Try.func19, Try.ntmps19
    go_wp2_with fail
    go_ret
    exact ⟨rfl, rfl⟩
  · by_cases h2 : b < a
    · go_enter Try.func19, Try.ntmps19
      go_wp2_with fail
      go_ret
      exact ⟨rfl, rfl⟩
    · have h3 : 1073741824 < b := by omega
      clear h
      go_enter Try.func19, Try.ntmps19
      go_wp2_with fail
      go_ret
      exact ⟨rfl, rfl⟩

theorem rnew_yes (a b : Int) (w : World) (h1 : 1 ≤ a) (h2 : a ≤ b) (h3 : b ≤ 1073741824) :
    Calls Try.prog 19 #[.int .i64 a, .int .i64 b] w fun e w' => e = .returned (.pointer (some ⟨w.heap.size, 0, none⟩)) ∧ St 33 w' w.heap.size a b a a ∧ Ch no w w' := by
  go_enter Try.func19, Try.ntmps19
  go_wp2_with fail
  go_ret
  exact ⟨rfl, bNew _ _, (Ch.refl _ _).alloc _⟩


theorem rtick_no (a b c d n : Int) (g : Nat) (w : World) (h : St 33 w g a b c d) (hn : n < d) (h0 : 1 ≤ d) (h1 : d ≤ 1073741824) :
    Calls Try.prog 23 #[.pointer (some ⟨g, 0, none⟩), .int .i64 n] w fun e w' => e = .returned (.bool false) ∧ St 33 w' g a b c (d - max 0 n) ∧ Ch (one g) w w' := by
  obtain ⟨c0, c1, c2, c3⟩ := h.cells
  have f0 := h.frozen 0
  have f1 := h.frozen 1
  have f2 := h.frozen 2
  have f3 := h.frozen 3
  by_cases hneg : n < 0
  · have e : d - max 0 n = d := by omega
    have E := Lib.hid e
    clear e
    rw [E.out]
    go_enter Try.func23, Try.ntmps23
    go_wp2_with fail
    all_goals go_ret
    all_goals exact ⟨rfl, by simpa using h.set3 d, by repeat (first | exact Ch.refl _ _ | apply Ch.drew | apply Ch.drewN | apply Ch.alloc | refine Ch.set ?_ (.inl (rfl : one g g)) _)⟩
  · have e : max 0 n = n := by omega
    have E := Lib.hid e
    clear e
    rw [E.out]
    go_enter Try.func23, Try.ntmps23
    go_wp2_with fail
    all_goals go_ret
    all_goals exact ⟨rfl, h.set3 _, by repeat (first | exact Ch.refl _ _ | apply Ch.drew | apply Ch.drewN | apply Ch.alloc | refine Ch.set ?_ (.inl (rfl : one g g)) _)⟩

theorem rtick_yes (a b c d n : Int) (g : Nat) (w : World) (h : St 33 w g a b c d) (hn : d ≤ n) (hd : 1 ≤ d) (h0 : 0 ≤ c) (h1 : c ≤ 1073741824) :
    Calls Try.prog 23 #[.pointer (some ⟨g, 0, none⟩), .int .i64 n] w fun e w' => e = .returned (.bool true) ∧ St 33 w' g a b (nextW c b) (nextW c b) ∧ Ch (one g) w w' := by
  obtain ⟨c0, c1, c2, c3⟩ := h.cells
  have f0 := h.frozen 0
  have f1 := h.frozen 1
  have f2 := h.frozen 2
  have f3 := h.frozen 3
  have hn' : ¬ n < d := by omega
  have hz : ¬ n < 0 := by omega
  by_cases hm : b < c + c
  · have e : nextW c b = b := by unfold nextW; omega
    have E := Lib.hid e
    clear e
    rw [E.out]
    go_enter Try.func23, Try.ntmps23
    go_wp2_with fail
    go_region
    all_goals go_wp2_with fail
    all_goals go_region
    all_goals go_wp2_with fail
    all_goals go_ret
    all_goals exact ⟨rfl, ((h.set2 _).set2 _).set3 _, by repeat (first | exact Ch.refl _ _ | apply Ch.drew | apply Ch.drewN | apply Ch.alloc | refine Ch.set ?_ (.inl (rfl : one g g)) _)⟩
  · have e : nextW c b = c + c := by unfold nextW; omega
    have E := Lib.hid e
    clear e
    rw [E.out]
    go_enter Try.func23, Try.ntmps23
    go_wp2_with fail
    go_region
    all_goals go_wp2_with fail
    all_goals go_region
    all_goals go_wp2_with fail
    all_goals go_ret
    all_goals exact ⟨rfl, (h.set2 _).set3 _, by repeat (first | exact Ch.refl _ _ | apply Ch.drew | apply Ch.drewN | apply Ch.alloc | refine Ch.set ?_ (.inl (rfl : one g g)) _)⟩

end Go.Proofs.Ytpmfojnccfnleaa.Ra
