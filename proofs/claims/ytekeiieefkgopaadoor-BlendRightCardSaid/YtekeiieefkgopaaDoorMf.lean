/- The table of the longest common subsequences. -/
import Derived.Test.YtekeiieefkgopaaDoorMe
import Derived.StillTailTactics
import Derived.Deep.OwnRows
namespace Go.Proofs.YtekeiieefkgopaaDoor.Mf
open Go.RowKit Go.Proofs.YtekeiieefkgopaaDoor.Aa Go.Proofs.YtekeiieefkgopaaDoor.Vw Go.Proofs.YtekeiieefkgopaaDoor.Ma Go.Proofs.YtekeiieefkgopaaDoor.Mr Go.Proofs.YtekeiieefkgopaaDoor.Mb Go.Proofs.YtekeiieefkgopaaDoor.Me
attribute [local go_sem] mx2 mn2 mxOp mnOp
set_option linter.unusedVariables false
set_option linter.unusedSimpArgs false

/-- How long the longest common subsequence is. -/
def lcs : List ByteArray → List ByteArray → Nat
  | [], _ => 0
  | _ :: _, [] => 0
  | a :: x, b :: y => if a = b then lcs x y + 1 else max (lcs x (b :: y)) (lcs (a :: x) y)
termination_by x y => x.length + y.length
/-- .. of the lists' ends. -/
def tab (xs ys : List ByteArray) (i k : Nat) : Nat := lcs (xs.drop i) (ys.drop k)
theorem lcs_nil (x : List ByteArray) : lcs x [] = 0 := by cases x <;> simp [lcs]
theorem lcs_nil' (x : List ByteArray) : lcs [] x = 0 := by simp [lcs]
theorem lcs_le (x y : List ByteArray) : lcs x y ≤ x.length := by
  induction x, y using lcs.induct with
  | case1 => simp [lcs]
  | case2 => simp [lcs]
  | case3 a x y ih => rw [lcs, if_pos rfl]; simp; omega
  | case4 a x b y h ih1 ih2 => rw [lcs, if_neg h]; simp at *; omega
theorem tab_end (xs ys : List ByteArray) (i k : Nat) (h : xs.length ≤ i ∨ ys.length ≤ k) : tab xs ys i k = 0 := by
  unfold tab
  rcases h with h | h
  · rw [List.drop_eq_nil_of_le h, lcs_nil']
  · rw [List.drop_eq_nil_of_le h, lcs_nil]
theorem tab_eq (xs ys : List ByteArray) (i k : Nat) (h1 : i < xs.length) (h2 : k < ys.length) (h : xs[i] = ys[k]) : tab xs ys i k = tab xs ys (i + 1) (k + 1) + 1 := by
  unfold tab
  rw [List.drop_eq_getElem_cons h1, List.drop_eq_getElem_cons h2, lcs, if_pos h]
theorem tab_ne (xs ys : List ByteArray) (i k : Nat) (h1 : i < xs.length) (h2 : k < ys.length) (h : xs[i] ≠ ys[k]) : tab xs ys i k = max (tab xs ys (i + 1) k) (tab xs ys i (k + 1)) := by
  unfold tab
  conv => lhs; rw [List.drop_eq_getElem_cons h1, List.drop_eq_getElem_cons h2, lcs, if_neg h]
  rw [← List.drop_eq_getElem_cons h1, ← List.drop_eq_getElem_cons h2]
theorem tab_le (xs ys : List ByteArray) (i k : Nat) : tab xs ys i k ≤ xs.length := by
  unfold tab
  have := lcs_le (xs.drop i) (ys.drop k)
  rw [List.length_drop] at this
  omega

/-- A row of numbers at block r, from its k-th one on. -/
def RowT (w : World) (r m k0 : Nat) (f : Nat → Nat) : Prop := ∃ rc : Array Value, w.heap[r]? = some (.cells rc 3 (0, 0)) ∧ rc.size = m + 1 ∧ ∀ k, k0 ≤ k → k ≤ m → rc[k]? = some (.int .i64 (f k))
theorem RowT.cell {w : World} {r m k0 : Nat} {f : Nat → Nat} (h : RowT w r m k0 f) (k : Nat) (h1 : k0 ≤ k) (h2 : k ≤ m) : w.cell? ⟨r, k, none⟩ = some (.int .i64 (f k)) := by
  obtain ⟨rc, hb, hs, hc⟩ := h
  exact (bCell hb k).trans (hc k h1 h2)
theorem RowT.free {w : World} {r m k0 : Nat} {f : Nat → Nat} (h : RowT w r m k0 f) (k : Nat) : w.frozen? ⟨r, k, none⟩ = false := by
  obtain ⟨rc, hb, hs, hc⟩ := h
  exact bFree hb k
theorem RowT.ch {S : Nat → Prop} {w w' : World} {r m k0 : Nat} {f : Nat → Nat} (h : RowT w r m k0 f) (hc : Ch S w w') (hs : ¬ S r) : RowT w' r m k0 f := by
  obtain ⟨rc, hb, h1, h2⟩ := h
  exact ⟨rc, hc.blk hb hs, h1, h2⟩
theorem RowT.set {w : World} {r m k0 : Nat} {f : Nat → Nat} (h : RowT w r m (k0 + 1) f) (hk : k0 ≤ m) (v : Int) (hv : v = f k0) : RowT (w.setCell ⟨r, k0, none⟩ (.int .i64 v)) r m k0 f := by
  obtain ⟨rc, hb, h1, h2⟩ := h
  refine ⟨rc.setIfInBounds k0 (.int .i64 v), bSet hb k0 _, by simpa using h1, fun k hk0 hkm => ?_⟩
  by_cases e : k = k0
  · subst e
    rw [Array.getElem?_setIfInBounds_self_of_lt (by omega), hv]
  · rw [Array.getElem?_setIfInBounds_ne (fun h => e h.symm)]
    exact h2 k (by omega) hkm
/-- A store at the place itself keeps what stands behind it. -/
theorem RowT.set0 {w : World} {r m k0 : Nat} {f : Nat → Nat} (h : RowT w r m (k0 + 1) f) (v : Int) : RowT (w.setCell ⟨r, k0, none⟩ (.int .i64 v)) r m (k0 + 1) f := by
  obtain ⟨rc, hb, h1, h2⟩ := h
  refine ⟨rc.setIfInBounds k0 (.int .i64 v), bSet hb k0 _, by simpa using h1, fun k hk0 hkm => ?_⟩
  rw [Array.getElem?_setIfInBounds_ne (by omega)]
  exact h2 k hk0 hkm

/-- The table at block g, from its i-th row on. -/
structure TabT (w : World) (B g n m i0 : Nat) (T : Nat → Nat → Nat) : Prop where
  blk : ∃ (cur : Array Value) (rows : Nat → Nat), w.heap[g]? = some (.cells cur 199 (0, 0)) ∧ cur.size = n + 1 ∧ ∀ j, i0 ≤ j → j ≤ n → cur[j]? = some (.slice (some ⟨rows j, 0, none⟩) (m + 1) (m + 1)) ∧ rows j ≠ g ∧ B ≤ rows j ∧ RowT w (rows j) m 0 (T j)
  ge : B ≤ g
theorem TabT.ch {S : Nat → Prop} {w w' : World} {B g n m i0 : Nat} {T : Nat → Nat → Nat} (h : TabT w B g n m i0 T) (hc : Ch S w w') (hs : ∀ k, k < w.heap.size → ¬ S k) : TabT w' B g n m i0 T := by
  obtain ⟨cur, rows, hb, h1, h2⟩ := h.blk
  refine ⟨⟨cur, rows, hc.blk hb (hs g (blk_lt' hb)), h1, fun j hj hn => ?_⟩, h.ge⟩
  obtain ⟨a, b, c, d⟩ := h2 j hj hn
  refine ⟨a, b, c, d.ch hc (hs _ ?_)⟩
  obtain ⟨rc, hrb, _⟩ := d
  exact blk_lt' hrb
theorem TabT.at_ {w : World} {B g n m i0 : Nat} {T : Nat → Nat → Nat} (h : TabT w B g n m i0 T) (j : Nat) (hj : i0 ≤ j) (hn : j ≤ n) :
    ∃ r, w.cell? ⟨g, j, none⟩ = some (.slice (some ⟨r, 0, none⟩) (m + 1) (m + 1)) ∧ RowT w r m 0 (T j) ∧ r ≠ g := by
  obtain ⟨cur, rows, hb, h1, h2⟩ := h.blk
  obtain ⟨a, b, c, d⟩ := h2 j hj hn
  exact ⟨rows j, (bCell hb j).trans a, d, b⟩

theorem infoInts : (Tryd.prog.info? 199).map (fun i => (i.zero, i.size, i.bytes)) = some (some (.slice none 0 0), 1, 24) := by kernel_rfl
theorem infoInt : (Tryd.prog.info? 3).map (fun i => (i.zero, i.size, i.bytes)) = some (some (.int .i64 0), 1, 8) := by kernel_rfl

/-- The table, while a row of it is made: row i at block r, from its k-th number on. -/
structure Mid (w0 w : World) (g r n m i k : Nat) (T : Nat → Nat → Nat) : Prop where
  tab : TabT w w0.heap.size g n m (i + 1) T
  cell : w.cell? ⟨g, i, none⟩ = some (.slice (some ⟨r, 0, none⟩) (m + 1) (m + 1))
  row : RowT w r m k (T i)
  rg : r ≠ g
  new : w0.heap.size ≤ r
  apart : ∀ j, i + 1 ≤ j → j ≤ n → w.cell? ⟨g, j, none⟩ ≠ some (.slice (some ⟨r, 0, none⟩) (m + 1) (m + 1))
  ch : Ch no w0 w
theorem Mid.set {w0 w : World} {g r n m i k : Nat} {T : Nat → Nat → Nat} (h : Mid w0 w g r n m i (k + 1) T) (hk : k ≤ m) (v : Int) (k' : Nat) (hv : RowT (w.setCell ⟨r, k, none⟩ (.int .i64 v)) r m k' (T i)) : Mid w0 (w.setCell ⟨r, k, none⟩ (.int .i64 v)) g r n m i k' T := by
  have hch : Ch (one r) w (w.setCell ⟨r, k, none⟩ (.int .i64 v)) := Ch.set1 _ _ _ _
  have hcell : ∀ j, (w.setCell ⟨r, k, none⟩ (.int .i64 v)).cell? ⟨g, j, none⟩ = w.cell? ⟨g, j, none⟩ := fun j => World.cell?_of_block (Below.heap_setCell w _ _ g (fun e => h.rg e.symm))
  obtain ⟨cur, rows, hb, h1, h2⟩ := h.tab.blk
  refine ⟨⟨⟨cur, rows, hch.blk hb (fun e : g = r => h.rg e.symm), h1, fun j hj hn => ?_⟩, h.tab.ge⟩, by rw [hcell]; exact h.cell, hv, h.rg, h.new, fun j hj hn => by rw [hcell]; exact h.apart j hj hn, h.ch.set (.inr h.new) _⟩
  obtain ⟨a, b, c, d⟩ := h2 j hj hn
  refine ⟨a, b, c, d.ch hch (fun e : rows j = r => ?_)⟩
  have := h.apart j hj hn
  rw [bCell hb j, a, e] at this
  exact this rfl
theorem Mid.drewN {w0 w : World} {g r n m i k : Nat} {T : Nat → Nat → Nat} (h : Mid w0 w g r n m i k T) (q : Nat) : Mid w0 (w.drewN q) g r n m i k T :=
  ⟨h.tab.ch ((Ch.refl no w).drewN q) (fun _ _ => no_not _), h.cell, h.row, h.rg, h.new, h.apart, h.ch.drewN q⟩
theorem Mid.drew {w0 w : World} {g r n m i k : Nat} {T : Nat → Nat → Nat} (h : Mid w0 w g r n m i k T) : Mid w0 w.drew g r n m i k T := h.drewN 1
theorem Mid.done {w0 w : World} {g r n m i : Nat} {T : Nat → Nat → Nat} (h : Mid w0 w g r n m i 0 T) (hi : i ≤ n) : TabT w w0.heap.size g n m i T := by
  obtain ⟨cur, rows, hb, h1, h2⟩ := h.tab.blk
  refine ⟨⟨cur, fun j => if j = i then r else rows j, hb, h1, fun j hj hn => ?_⟩, h.tab.ge⟩
  by_cases e : j = i
  · subst e
    simp only [if_true]
    refine ⟨?_, h.rg, h.new, h.row⟩
    have := h.cell
    rwa [bCell hb] at this
  · simp only [if_neg e]
    exact h2 j (by omega) hn
/-- A new row is laid. -/
theorem Mid.new_ {w0 w : World} {g n m i : Nat} {T : Nat → Nat → Nat} (h : TabT w w0.heap.size g n m (i + 1) T) (hc : Ch no w0 w) (hi : i ≤ n) (hT : T i m = 0) (w1 : World) (hw1 : w1 = (w.setCell ⟨g, i, none⟩ (.slice (some ⟨w.heap.size, 0, none⟩) (m + 1) (m + 1))).alloc (.cells (madeCells #[.int .i64 0] (m + 1)) 3)) :
    Mid w0 w1 g w.heap.size n m i m T := by
  have hg0 : g < w.heap.size := by obtain ⟨cur, rows, hb, _⟩ := h.blk; exact blk_lt' hb
  rw [← World.setCell_alloc_past _ _ _ _ hg0] at hw1
  subst hw1
  obtain ⟨cur, rows, hb, h1, h2⟩ := h.blk
  have hgl := blk_lt' hb
  have hb' : (w.alloc (.cells (madeCells #[.int .i64 0] (m + 1)) 3)).heap[g]? = some (.cells cur 199 (0, 0)) := (Below.heap_alloc w _ g hgl).trans hb
  have hset := bSet hb' i (.slice (some ⟨w.heap.size, 0, none⟩) (m + 1) (m + 1))
  have hr : ∀ j, i + 1 ≤ j → j ≤ n → rows j < w.heap.size := fun j hj hn => by
    obtain ⟨_, _, _, rc, hrb, _⟩ := h2 j hj hn
    exact blk_lt' hrb
  refine ⟨⟨⟨_, rows, hset, by simpa using h1, fun j hj hn => ?_⟩, h.ge⟩, ?_, ?_, by omega, hc.size, ?_, (hc.alloc _).set (.inr h.ge) _⟩
  · obtain ⟨a, b, c, d⟩ := h2 j hj hn
    refine ⟨by rw [Array.getElem?_setIfInBounds_ne (by omega)]; exact a, b, c, ?_⟩
    exact (d.ch ((Ch.refl no w).alloc _) (no_not _)).ch (Ch.set1 _ g _ _) (fun e : rows j = g => b e)
  · rw [bCell hset, Array.getElem?_setIfInBounds_self_of_lt (by omega)]
  · refine RowT.ch (S := one g) (w := w.alloc (.cells (madeCells #[.int .i64 0] (m + 1)) 3)) ⟨_, bNew w _, by simp [size_madeCells], fun k h1 h2 => ?_⟩ (Ch.set1 _ g _ _) (fun e : w.heap.size = g => by omega)
    have e : k = m := by omega
    subst e
    rw [hT]
    simp [madeCells, Nat.mod_one]
  · intro j hj hn
    rw [bCell hset, Array.getElem?_setIfInBounds_ne (by omega)]
    obtain ⟨a, b, c, d⟩ := h2 j hj hn
    rw [a]
    intro e
    have h9 := hr j hj hn
    injection e with e
    injection e with e
    injection e with e
    injection e with e
    rw [e] at h9
    exact Nat.lt_irrefl _ h9

theorem TabT.first (w : World) (n m : Nat) (T : Nat → Nat → Nat) (hT : ∀ k, k ≤ m → T n k = 0) :
    TabT ((w.alloc (.cells ((madeCells #[.slice none 0 0] (n + 1)).setIfInBounds n (.slice (some ⟨w.heap.size + 1, 0, none⟩) (m + 1) (m + 1))) 199)).alloc (.cells (madeCells #[.int .i64 0] (m + 1)) 3)) w.heap.size w.heap.size n m n T := by
  refine ⟨⟨_, fun _ => w.heap.size + 1, (Below.heap_alloc _ _ _ (by simp)).trans (bNew w _), by simp [size_madeCells], fun j hj hn => ?_⟩, Nat.le_refl _⟩
  have e : j = n := by omega
  subst e
  refine ⟨?_, Nat.succ_ne_self _, Nat.le_succ _, ?_⟩
  · rw [Array.getElem?_setIfInBounds_self_of_lt (by simp [size_madeCells])]
  · have hb := bNew (w.alloc (.cells ((madeCells #[.slice none 0 0] (j + 1)).setIfInBounds j (.slice (some ⟨w.heap.size + 1, 0, none⟩) (m + 1) (m + 1))) 199)) (.cells (madeCells #[.int .i64 0] (m + 1)) 3)
    rw [World.size_alloc] at hb
    refine ⟨_, hb, by simp [size_madeCells], fun k h1 h2 => ?_⟩
    rw [hT k h2]
    have : k < m + 1 := by omega
    simp [madeCells, Nat.mod_one, this]
theorem TabT.any {w : World} {B g n m i0 : Nat} {T : Nat → Nat → Nat} (h : TabT w B g n m i0 T) (j : Nat) (hn : j ≤ n) : (∃ u, w.cell? ⟨g, j, none⟩ = some u) ∧ w.frozen? ⟨g, j, none⟩ = false ∧ g < w.heap.size := by
  obtain ⟨cur, rows, hb, h1, h2⟩ := h.blk
  exact ⟨⟨cur[j]'(by omega), (bCell hb j).trans (Array.getElem?_eq_getElem (by omega))⟩, bFree hb j, blk_lt' hb⟩

set_option maxRecDepth 100000 in
set_option maxHeartbeats 8000000 in
theorem table_any (A B : Option Addr) (c d : Nat) (xs ys : List ByteArray) (w : World) (hx : El.str.Row w A c xs) (hy : El.str.Row w B d ys) (hn : xs.length ≤ 1000000) (hm : ys.length ≤ 1000000) :
    Calls Tryd.prog 154 #[.slice A xs.length c, .slice B ys.length d] w fun e w' => ∃ g, e = .returned (.slice (some ⟨g, 0, none⟩) (xs.length + 1) (xs.length + 1)) ∧ TabT w' w.heap.size g xs.length ys.length 0 (tab xs ys) ∧ Ch no w w' := by
  have HX := Lib.hid hx; have HY := Lib.hid hy; clear hx hy
  have hmk1 : ∀ W : World, (Instr.makeSlice 196 (.int .i64 ((xs.length : Int) + 1)) (.int .i64 ((xs.length : Int) + 1))).run Tryd.prog W = .ok (.slice (some ⟨W.heap.size, 0, none⟩) (xs.length + 1) (xs.length + 1)) (W.alloc (.cells (madeCells #[.slice none 0 0] (xs.length + 1)) 199)) := fun W => by
    have := run_make_row' (P := Tryd.prog) 196 199 (.slice none 0 0) 24 Tryd.underlying196 infoInts rfl .i64 .i64 (xs.length + 1) (by omega) (by omega) W
    simpa using this
  have hmk2 : ∀ W : World, (Instr.makeSlice 199 (.int .i64 ((ys.length : Int) + 1)) (.int .i64 ((ys.length : Int) + 1))).run Tryd.prog W = .ok (.slice (some ⟨W.heap.size, 0, none⟩) (ys.length + 1) (ys.length + 1)) (W.alloc (.cells (madeCells #[.int .i64 0] (ys.length + 1)) 3)) := fun W => by
    have := run_make_row' (P := Tryd.prog) 199 3 (.int .i64 0) 8 Tryd.underlying199 infoInt rfl .i64 .i64 (ys.length + 1) (by omega) (by omega) W
    simpa using this
  have hg1 : (madeCells #[Value.slice none 0 0] (xs.length + 1))[xs.length]? = some (.slice none 0 0) := by simp [madeCells, Nat.mod_one]
  have HT := Lib.hid (TabT.first w xs.length ys.length (tab xs ys) (fun k _ => tab_end _ _ _ _ (.inl (Nat.le_refl _))))
  go_enter Tryd.func154, Tryd.ntmps154
  go_wp2_with fail
  go_loopw [6] (fun i wr => ∃ q : Int, -1 ≤ q ∧ q + 1 ≤ xs.length ∧ i = .int .i64 q ∧ Hid (TabT wr w.heap.size w.heap.size xs.length ys.length (q + 1).toNat (tab xs ys)) ∧ Hid (Ch no w wr)) (fun i _ => (intOf i + 1).toNat)
  case atStart =>
    refine ⟨(xs.length : Int) - 1, by omega, by omega, rfl, ?_, ((Ch.refl _ _).alloc _).alloc _⟩
    rw [show ((xs.length : Int) - 1 + 1).toNat = xs.length from by omega]
    exact HT
  case round =>
    obtain ⟨wo, rfl⟩ : ∃ wo : World, wo = wr := ⟨_, rfl⟩
    clear hg1 HT
    obtain ⟨q, hq0, hq1, rfl, HT, HC⟩ := hrel
    by_cases hq : 0 ≤ q
    · obtain ⟨j, rfl⟩ := Int.eq_ofNat_of_zero_le hq
      have HT' : Hid (TabT wo w.heap.size w.heap.size xs.length ys.length (j + 1) (tab xs ys)) := HT
      obtain ⟨⟨u, hcu⟩, hfu, hgl⟩ := HT'.out.any j (by omega)
      have HN := Lib.hid (Mid.new_ (i := j) HT'.out HC.out (by omega) (tab_end xs ys j ys.length (.inr (Nat.le_refl _))) _ rfl)
      clear HT
      go_wp2_with fail
      have HG := Lib.hid hgl
      clear hcu hfu hgl hmk1
      go_loopw [7] (fun i wr => ∃ k : Int, -1 ≤ k ∧ k + 1 ≤ ys.length ∧ i = .int .i64 k ∧ Hid (Mid w wr w.heap.size wo.heap.size xs.length ys.length j (k + 1).toNat (tab xs ys))) (fun i _ => (intOf i + 1).toNat)
      case atStart =>
        refine ⟨(ys.length : Int) - 1, by omega, by omega, rfl, ?_⟩
        rw [show ((ys.length : Int) - 1 + 1).toNat = ys.length from by omega]
        exact HN
      case round =>
        clear HN
        obtain ⟨k0, hk0, hk1, rfl, HM⟩ := hrel
        by_cases hk : 0 ≤ k0
        · obtain ⟨k, rfl⟩ := Int.eq_ofNat_of_zero_le hk
          have HM' : Hid (Mid w wr w.heap.size wo.heap.size xs.length ys.length j (k + 1) (tab xs ys)) := HM
          clear HM
          have hj0 : (0 : Int) ≤ (j : Int) := by omega
          have hj1 : (j : Int) < (xs.length : Int) + 1 := by omega
          have hj2 : j < xs.length := by omega
          have hj3 : (0 : Int) ≤ (j : Int) + 1 := by omega
          have hk2 : (0 : Int) ≤ (k : Int) := by omega
          have hk3 : (k : Int) < (ys.length : Int) + 1 := by omega
          have hk4 : k < ys.length := by omega
          have hk5 : (0 : Int) ≤ (k : Int) + 1 := by omega
          have hwj : IntKind.i64.wrap ((j : Int) + 1) = (j : Int) + 1 := IntWalk.i64_in _ (by omega)
          have hwk : IntKind.i64.wrap ((k : Int) + 1) = (k : Int) + 1 := IntWalk.i64_in _ (by omega)
          have htj : ((j : Int) + 1).toNat = j + 1 := by omega
          have htk : ((k : Int) + 1).toNat = k + 1 := by omega
          have hb3 := tab_le xs ys (j + 1) (k + 1)
          have hwt : IntKind.i64.wrap ((tab xs ys (j + 1) (k + 1) : Nat) + 1 : Int) = (tab xs ys (j + 1) (k + 1) : Nat) + 1 := IntWalk.i64_in _ (by omega)
          have HSET : ∀ (W : World) (v : Int), Hid (Mid w W w.heap.size wo.heap.size xs.length ys.length j (k + 1) (tab xs ys)) → Hid (Mid w (W.setCell ⟨wo.heap.size, k, none⟩ (.int .i64 v)) w.heap.size wo.heap.size xs.length ys.length j (k + 1) (tab xs ys)) :=
            fun W v h => h.out.set (by omega) v (k + 1) (RowT.set0 h.out.row v)
          have HFACT : ∀ (W : World), Hid (Mid w W w.heap.size wo.heap.size xs.length ys.length j (k + 1) (tab xs ys)) → ∃ (u0 : Value) (r1 : Nat), W.cell? ⟨wo.heap.size, k, none⟩ = some u0 ∧ W.frozen? ⟨wo.heap.size, k, none⟩ = false ∧
              W.cell? ⟨w.heap.size, j, none⟩ = some (.slice (some ⟨wo.heap.size, 0, none⟩) (ys.length + 1) (ys.length + 1)) ∧ W.cell? ⟨w.heap.size, j + 1, none⟩ = some (.slice (some ⟨r1, 0, none⟩) (ys.length + 1) (ys.length + 1)) ∧
              W.cell? ⟨r1, k, none⟩ = some (.int .i64 (tab xs ys (j + 1) k : Nat)) ∧ W.cell? ⟨r1, k + 1, none⟩ = some (.int .i64 (tab xs ys (j + 1) (k + 1) : Nat)) ∧ W.cell? ⟨wo.heap.size, k + 1, none⟩ = some (.int .i64 (tab xs ys j (k + 1) : Nat)) := fun W h => by
            obtain ⟨r1, hc1, hr1, hrg1⟩ := h.out.tab.at_ (j + 1) (by omega) (by omega)
            obtain ⟨rc, hb, hs, _⟩ := h.out.row
            exact ⟨rc[k]'(by omega), r1, (bCell hb k).trans (Array.getElem?_eq_getElem (by omega)), h.out.row.free k, h.out.cell, hc1, hr1.cell k (by omega) (by omega), hr1.cell (k + 1) (by omega) (by omega), h.out.row.cell (k + 1) (by omega) (by omega)⟩
          obtain ⟨a, rfl, hca⟩ := (HX.out.ch HM'.out.ch).flat_at j (by omega)
          obtain ⟨b, rfl, hcb⟩ := (HY.out.ch HM'.out.ch).flat_at k (by omega)
          obtain ⟨u0, r1, q1, q2, q3, q4, q5, q6, q7⟩ := HFACT _ HM'
          have HS := Lib.hid HSET
          have HF := Lib.hid HFACT
          clear HSET HFACT hca hcb
          by_cases he : xs[j] = ys[k]
          · have HTE := Lib.hid (tab_eq xs ys j k hj2 hk4 he)
            have hbe := beq_yes he
            clear he
            by_cases ht : tab xs ys (j + 1) k < tab xs ys j (k + 1)
            all_goals
              go_wp2_with fail
              go_still_tail 23, (by kernel_rfl)
              show wpList _ _ _ _ _ wr.drew
              go_wp2_with fail
              refine wp_world (fun W => Hid (Mid w W w.heap.size wo.heap.size xs.length ys.length j (k + 1) (tab xs ys))) ((HS.out _ _ HM').out.drew) ?_
              intro W1 HM1
              clear q1 q2 q3 q4 q5 q6 q7
              obtain ⟨a', ea, hca⟩ := (HX.out.ch HM1.out.ch).flat_at j (by omega)
              cases ea
              obtain ⟨b', eb, hcb⟩ := (HY.out.ch HM1.out.ch).flat_at k (by omega)
              cases eb
              go_quiet (fail)
              go_wp2_with fail
              refine wp_world (fun W => Hid (Mid w W w.heap.size wo.heap.size xs.length ys.length j (k + 1) (tab xs ys))) (HM1.out.drewN _) ?_
              intro W2 HM2
              clear hca hcb
              obtain ⟨u1, r2, q1, q2, q3, q4, q5, q6, q7⟩ := HF.out _ HM2
              go_still_tail 16, (by kernel_rfl)
              show wpList _ _ _ _ _ W2.drew
              go_wp2_with fail
              go_roundw
              case rel => exact ⟨(k : Int) - 1, by omega, by omega, rfl, by
                rw [show ((k : Int) - 1 + 1).toNat = k from by omega]
                exact (HM2.out.set (by omega) _ k (RowT.set HM2.out.row (by omega) _ (by have := HTE.out; omega))).drew⟩
              case measure => simp [intOf] <;> omega
          · have HTE := Lib.hid (tab_ne xs ys j k hj2 hk4 he)
            have hbe := beq_no he
            clear he
            by_cases ht : tab xs ys (j + 1) k < tab xs ys j (k + 1)
            all_goals
              go_wp2_with fail
              go_still_tail 23, (by kernel_rfl)
              show wpList _ _ _ _ _ wr.drew
              go_wp2_with fail
              refine wp_world (fun W => Hid (Mid w W w.heap.size wo.heap.size xs.length ys.length j k (tab xs ys))) ((HM'.out.set (by omega) _ k (RowT.set HM'.out.row (by omega) _ (by have := HTE.out; omega))).drew) ?_
              intro W1 HM1
              clear q1 q2 q3 q4 q5 q6 q7
              obtain ⟨a', ea, hca⟩ := (HX.out.ch HM1.out.ch).flat_at j (by omega)
              cases ea
              obtain ⟨b', eb, hcb⟩ := (HY.out.ch HM1.out.ch).flat_at k (by omega)
              cases eb
              go_quiet (fail)
              go_wp2_with fail
              go_roundw
              case rel => exact ⟨(k : Int) - 1, by omega, by omega, rfl, by
                rw [show ((k : Int) - 1 + 1).toNat = k from by omega]
                exact HM1.out.drewN _⟩
              case measure => simp [intOf] <;> omega
        · have e : k0 = -1 := by omega
          subst e
          have HM' : Hid (Mid w wr w.heap.size wo.heap.size xs.length ys.length j 0 (tab xs ys)) := HM
          clear HM
          go_wp2_with fail
          go_roundw
          case rel => exact ⟨(j : Int) - 1, by omega, by omega, rfl, by
            rw [show ((j : Int) - 1 + 1).toNat = j from by omega]
            exact HM'.out.done (by omega), HM'.out.ch⟩
          case measure => simp [intOf] <;> omega
    · have e : q = -1 := by omega
      subst e
      have HT' : Hid (TabT wo w.heap.size w.heap.size xs.length ys.length 0 (tab xs ys)) := HT
      go_wp2_with fail
      go_ret
      exact ⟨w.heap.size, rfl, HT'.out, HC.out⟩

end Go.Proofs.YtekeiieefkgopaaDoor.Mf
