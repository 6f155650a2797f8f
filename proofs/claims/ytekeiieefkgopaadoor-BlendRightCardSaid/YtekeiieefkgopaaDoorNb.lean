/- A cluster takes one more edit; its kind. -/
import Derived.Test.YtekeiieefkgopaaDoorNa
namespace Go.Proofs.YtekeiieefkgopaaDoor.Nb
open Go.RowKit Go.Proofs.YtekeiieefkgopaaDoor.Aa Go.Proofs.YtekeiieefkgopaaDoor.Vw Go.Proofs.YtekeiieefkgopaaDoor.Ma Go.Proofs.YtekeiieefkgopaaDoor.Mr Go.Proofs.YtekeiieefkgopaaDoor.Mb Go.Proofs.YtekeiieefkgopaaDoor.Mc Go.Proofs.YtekeiieefkgopaaDoor.Me Go.Proofs.YtekeiieefkgopaaDoor.Mf Go.Proofs.YtekeiieefkgopaaDoor.Mg Go.Proofs.YtekeiieefkgopaaDoor.Mh Go.Proofs.YtekeiieefkgopaaDoor.Mt Go.Proofs.YtekeiieefkgopaaDoor.Na
theorem mxNat (k k' : IntKind) (a b : Nat) : Builtin.max2 (.int k (a : Int)) (.int k' (b : Int)) = pure (.int k ((max a b : Nat) : Int)) := by
  simp only [Builtin.max2]
  by_cases h : a < b
  · rw [if_pos (by omega), Nat.max_eq_right (by omega)]
  · rw [if_neg (by omega), Nat.max_eq_left (by omega)]
attribute [local go_sem] mxNat mxOp
set_option linter.unusedVariables false
set_option linter.unusedSimpArgs false

/-- Edits that meet. -/
structure Clu where
  from_ : Nat
  to_ : Nat
  m0 : Int
  m1 : Int
  h0 : Bool
  h1 : Bool
deriving DecidableEq
abbrev Clu.cells (c : Clu) : Array Value := #[.int .i64 c.from_, .int .i64 c.to_, .int .i64 c.m0, .int .i64 c.m1, .bool c.h0, .bool c.h1]
def Clu.take0 (c : Clu) (p d n : Nat) : Clu := { c with to_ := max c.to_ (p + d), m0 := c.m0 + ((n : Int) - d), h0 := true }
def Clu.take1 (c : Clu) (p d n : Nat) : Clu := { c with to_ := max c.to_ (p + d), m1 := c.m1 + ((n : Int) - d), h1 := true }

theorem ch_one {w W : World} {S : Nat → Prop} (h : Ch S w W) {g : Nat} (hg : S g) (j : Nat) (v : Value) : Ch S w (W.setCell ⟨g, j, none⟩ v) := h.set (p := ⟨g, j, none⟩) (.inl hg) v
theorem blk_set {w : World} {o : Obj} {b g : Nat} (h : w.heap[b]? = some o) (hne : b ≠ g) (j : Nat) (v : Value) : (w.setCell ⟨g, j, none⟩ v).heap[b]? = some o :=
  (Ch.set1 w g j v).blk h (fun e => hne e)

set_option maxRecDepth 100000 in
set_option maxHeartbeats 8000000 in
theorem take0_of (cl : Clu) (g p d n c : Nat) (A : Option Addr) (w : World) (hg : w.heap[g]? = some (.cells cl.cells 165 (0, 0))) (hp : p ≤ 1000000000) (hd1 : d ≤ 1000000000) (hn : n ≤ 1000000000) (h0 : -1000000000 ≤ cl.m0 ∧ cl.m0 ≤ 1000000000) (h1 : -1000000000 ≤ cl.m1 ∧ cl.m1 ≤ 1000000000) :
    Calls Tryd.prog 144 #[.pointer (some ⟨g, 0, none⟩), .int .i64 0, .agg #[.int .i64 p, .int .i64 d, .slice A n c]] w fun e w' => e = .returned (.tuple #[]) ∧ w'.heap[g]? = some (.cells (cl.take0 p d n).cells 165 (0, 0)) ∧ Ch (one g) w w' := by
  obtain ⟨cf, ct, c0, c1, b0, b1⟩ := cl
  simp only [Clu.cells] at hg h0 h1
  have hgs := blk_lt' hg
  have hw0 : IntKind.i64.wrap ((n : Int) - d) = (n : Int) - d := IntWalk.i64_in _ (by omega)
  have hw1 : IntKind.i64.wrap (c0 + ((n : Int) - d)) = c0 + ((n : Int) - d) := IntWalk.i64_in _ (by omega)
  have hw2 : IntKind.i64.wrap (c1 + ((n : Int) - d)) = c1 + ((n : Int) - d) := IntWalk.i64_in _ (by omega)
  have HG := Lib.hid hg; clear hg
  go_enter Tryd.func144, Tryd.ntmps144
  go_wp2_with fail
  obtain ⟨b, hb⟩ : ∃ b, w.heap.size = b := ⟨_, rfl⟩
  rw [hb]
  have h3 := al1 w (.cells #[.int .i64 p, .int .i64 d, .slice A n c] 188)
  rw [hb] at h3
  refine wp_world (fun W => W.heap[b]? = some (.cells #[.int .i64 p, .int .i64 d, .slice A n c] 188 (0, 0)) ∧ W.heap[g]? = some (.cells #[.int .i64 cf, .int .i64 ct, .int .i64 c0, .int .i64 c1, .bool b0, .bool b1] 165 (0, 0)) ∧ Ch (one g) w W) ⟨h3, ((Ch.refl no w).alloc _).blk HG.out (no_not _), (Ch.refl (one g) w).alloc _⟩ ?_
  clear h3
  rintro W0 ⟨hb0, hb1, hcc⟩
  have HC := Lib.hid hcc
  have hne : b ≠ g := by omega
  have HNE := Lib.hid hne
  clear hb hcc hne
  refine wp_region_tail (G := gds [Gd.is ?r1v0, Gd.is ?r1v1, Gd.is ?r1v2, Gd.is ?r1v3, Gd.is ?r1v4, Gd.is ?r1v5, Gd.is ?r1v6, Gd.is ?r1v7, Gd.is ?r1v8, Gd.is ?r1v9]) 10 (by kernel_rfl) (by kernel_rfl) rfl (by kernel_rfl) gds_st ?obl1 ?fin1
  case obl1 =>
    simp only [Obls, and_true, List.take_succ_cons, List.take_zero]
    refine ⟨?_, ?_, ?_, ?_, ?_, ?_, ?_, ?_, ?_, ?_⟩
    · intro vs W hW hd
      simp only [fill, List.setIfInBounds_toArray, List.set_cons_zero, List.set_cons_succ]
      clear hd
      go_wp2_with (fail)
      refine ⟨rfl, rfl, Ch.refl _ _, gds_is rfl ?_⟩
      (conv => lhs; whnf)
    · intro vs W hW hd
      simp only [fill, List.setIfInBounds_toArray, List.set_cons_zero, List.set_cons_succ]
      clear hd
      go_wp2_with (fail)
      refine ⟨rfl, rfl, Ch.refl _ _, gds_is rfl ?_⟩
      (conv => lhs; whnf)
    · intro vs W hW hd
      simp only [fill, List.setIfInBounds_toArray, List.set_cons_zero, List.set_cons_succ]
      have d1 := gds_at rfl (hd ⟨1, .data⟩ (by simp) rfl)
      rw [d1]
      clear hd d1
      go_wp2_with (fail)
      refine ⟨rfl, rfl, Ch.refl _ _, gds_is rfl ?_⟩
      (conv => lhs; whnf)
    · intro vs W hW hd
      simp only [fill, List.setIfInBounds_toArray, List.set_cons_zero, List.set_cons_succ]
      have d2 := gds_at rfl (hd ⟨2, .data⟩ (by simp) rfl)
      rw [d2]
      clear hd d2
      go_wp2_with (fail)
      refine ⟨rfl, rfl, Ch.refl _ _, gds_is rfl ?_⟩
      (conv => lhs; whnf)
    · intro vs W hW hd
      simp only [fill, List.setIfInBounds_toArray, List.set_cons_zero, List.set_cons_succ]
      have d3 := gds_at rfl (hd ⟨3, .data⟩ (by simp) rfl)
      rw [d3]
      clear hd d3
      have hc0 := fun i => bCell (hW.blk hb0 (no_not _)) i
      have hc1 := fun i => bCell (hW.blk hb1 (no_not _)) i
      go_wp2_with (fail)
      refine ⟨rfl, rfl, Ch.refl _ _, gds_is rfl ?_⟩
      (conv => lhs; whnf)
    · intro vs W hW hd
      simp only [fill, List.setIfInBounds_toArray, List.set_cons_zero, List.set_cons_succ]
      clear hd
      have hc0 := fun i => bCell (hW.blk hb0 (no_not _)) i
      have hc1 := fun i => bCell (hW.blk hb1 (no_not _)) i
      go_wp2_with (fail)
      refine ⟨rfl, rfl, Ch.refl _ _, gds_is rfl ?_⟩
      (conv => lhs; whnf)
    · intro vs W hW hd
      simp only [fill, List.setIfInBounds_toArray, List.set_cons_zero, List.set_cons_succ]
      have d5 := gds_at rfl (hd ⟨5, .data⟩ (by simp) rfl)
      rw [d5]
      clear hd d5
      have hc0 := fun i => bCell (hW.blk hb0 (no_not _)) i
      have hc1 := fun i => bCell (hW.blk hb1 (no_not _)) i
      go_wp2_with (refine (end_of p d (.slice A n c) W ⟨A, n, c, rfl⟩ hp hd1).mono ?_; rintro e w' ⟨rfl, hch⟩)
      refine ⟨rfl, rfl, hch.mono (fun _ h => h.elim), gds_is rfl ?_⟩
      (conv => lhs; whnf)
    · intro vs W hW hd
      simp only [fill, List.setIfInBounds_toArray, List.set_cons_zero, List.set_cons_succ]
      have d4 := gds_at rfl (hd ⟨4, .data⟩ (by simp) rfl)
      have d6 := gds_at rfl (hd ⟨6, .data⟩ (by simp) rfl)
      rw [d4, d6]
      clear hd d4 d6
      have hc0 := fun i => bCell (hW.blk hb0 (no_not _)) i
      have hc1 := fun i => bCell (hW.blk hb1 (no_not _)) i
      have hmx : Builtin.max2 (.int .i64 (ct : Int)) (.int .i64 ((p : Int) + (d : Int))) = pure (.int .i64 ((max ct (p + d) : Nat) : Int)) := by rw [mx2]; congr 2; split <;> omega
      go_wp2_with (fail)
      refine ⟨rfl, rfl, Ch.refl _ _, gds_is rfl ?_⟩
      (conv => lhs; whnf)
    · intro vs W hW hd
      simp only [fill, List.setIfInBounds_toArray, List.set_cons_zero, List.set_cons_succ]
      have d0 := gds_at rfl (hd ⟨0, .data⟩ (by simp) rfl)
      rw [d0]
      clear hd d0
      go_wp2_with (fail)
      refine ⟨rfl, rfl, Ch.refl _ _, gds_is rfl ?_⟩
      (conv => lhs; whnf)
    · intro vs W hW hd
      simp only [fill, List.setIfInBounds_toArray, List.set_cons_zero, List.set_cons_succ]
      have d8 := gds_at rfl (hd ⟨8, .data⟩ (by simp) rfl)
      rw [d8]
      clear hd d8
      go_wp2_with (fail)
      refine ⟨rfl, rfl, Ch.refl _ _, gds_is rfl ?_⟩
      (conv => lhs; whnf)
  case fin1 =>
    intro vs W hW hd
    simp only [fill, List.setIfInBounds_toArray, List.set_cons_zero, List.set_cons_succ, List.take_succ_cons, List.take_zero, List.drop_succ_cons, List.drop_zero]
    have d0 := gds_at rfl (hd 0 (by omega))
    have d1 := gds_at rfl (hd 1 (by omega))
    have d2 := gds_at rfl (hd 2 (by omega))
    have d3 := gds_at rfl (hd 3 (by omega))
    have d4 := gds_at rfl (hd 4 (by omega))
    have d5 := gds_at rfl (hd 5 (by omega))
    have d6 := gds_at rfl (hd 6 (by omega))
    have d7 := gds_at rfl (hd 7 (by omega))
    have d8 := gds_at rfl (hd 8 (by omega))
    have d9 := gds_at rfl (hd 9 (by omega))
    rw [d0, d1, d2, d3, d4, d5, d6, d7, d8, d9]
    clear hd d0 d1 d2 d3 d4 d5 d6 d7 d8 d9
    have hc1 := (bCell (hW.blk hb1 (no_not _)) 1).trans rfl
    have hf1 := bFree (hW.blk hb1 (no_not _)) 1
    go_wp2_with fail
    have hx := bSet (hW.blk hb1 (no_not _)) 1 (.int .i64 (max ct (p + d) : Nat))
    have hz := blk_set (hW.blk hb0 (no_not _)) HNE.out 1 (.int .i64 (max ct (p + d) : Nat))
    have hy := ch_one (HC.out.drew.same (hW.mono (fun _ h => h.elim))) rfl 1 (.int .i64 (max ct (p + d) : Nat))
    simp only [List.setIfInBounds_toArray, List.set_cons_zero, List.set_cons_succ] at hx
    refine wp_world (fun W => W.heap[b]? = some (.cells #[.int .i64 p, .int .i64 d, .slice A n c] 188 (0, 0)) ∧ W.heap[g]? = some (.cells #[.int .i64 cf, .int .i64 (max ct (p + d) : Nat), .int .i64 c0, .int .i64 c1, .bool b0, .bool b1] 165 (0, 0)) ∧ Ch (one g) w W) ⟨hz, hx, hy⟩ ?_
    clear hx hy hz hc1 hf1
    rintro W0 ⟨hb0, hb1, hcc⟩
    have HC := Lib.hid hcc; clear hcc
    refine wp_region_tail (G := gds [Gd.is ?r2v0, Gd.is ?r2v1, Gd.is ?r2v2, Gd.is ?r2v3, Gd.is ?r2v4, Gd.is ?r2v5, Gd.is ?r2v6, Gd.is ?r2v7, Gd.is ?r2v8, Gd.is ?r2v9, Gd.is ?r2v10, Gd.is ?r2v11, Gd.is ?r2v12, Gd.is ?r2v13, Gd.is ?r2v14, Gd.is ?r2v15]) 16 (by kernel_rfl) (by kernel_rfl) rfl (by kernel_rfl) gds_st ?obl2 ?fin2
    case obl2 =>
      simp only [Obls, and_true, List.take_succ_cons, List.take_zero]
      refine ⟨?_, ?_, ?_, ?_, ?_, ?_, ?_, ?_, ?_, ?_, ?_, ?_, ?_, ?_, ?_, ?_⟩
      · intro vs W hW hd
        simp only [fill, List.setIfInBounds_toArray, List.set_cons_zero, List.set_cons_succ]
        clear hd
        go_wp2_with (fail)
        refine ⟨rfl, rfl, Ch.refl _ _, gds_is rfl ?_⟩
        (conv => lhs; whnf)
      · intro vs W hW hd
        simp only [fill, List.setIfInBounds_toArray, List.set_cons_zero, List.set_cons_succ]
        clear hd
        go_wp2_with (fail)
        refine ⟨rfl, rfl, Ch.refl _ _, gds_is rfl ?_⟩
        (conv => lhs; whnf)
      · intro vs W hW hd
        simp only [fill, List.setIfInBounds_toArray, List.set_cons_zero, List.set_cons_succ]
        have d0 := gds_at rfl (hd ⟨0, .data⟩ (by simp) rfl)
        rw [d0]
        clear hd d0
        go_wp2_with (fail)
        refine ⟨rfl, rfl, Ch.refl _ _, gds_is rfl ?_⟩
        (conv => lhs; whnf)
      · intro vs W hW hd
        simp only [fill, List.setIfInBounds_toArray, List.set_cons_zero, List.set_cons_succ]
        have d2 := gds_at rfl (hd ⟨2, .data⟩ (by simp) rfl)
        rw [d2]
        clear hd d2
        go_wp2_with (fail)
        refine ⟨rfl, rfl, Ch.refl _ _, gds_is rfl ?_⟩
        (conv => lhs; whnf)
      · intro vs W hW hd
        simp only [fill, List.setIfInBounds_toArray, List.set_cons_zero, List.set_cons_succ]
        have d1 := gds_at rfl (hd ⟨1, .data⟩ (by simp) rfl)
        have d3 := gds_at rfl (hd ⟨3, .data⟩ (by simp) rfl)
        rw [d1, d3]
        clear hd d1 d3
        go_wp2_with (fail)
        refine ⟨rfl, rfl, Ch.refl _ _, gds_is rfl ?_⟩
        (conv => lhs; whnf)
      · intro vs W hW hd
        simp only [fill, List.setIfInBounds_toArray, List.set_cons_zero, List.set_cons_succ]
        have d4 := gds_at rfl (hd ⟨4, .data⟩ (by simp) rfl)
        rw [d4]
        clear hd d4
        have hc0 := fun i => bCell (hW.blk hb0 (no_not _)) i
        have hc1 := fun i => bCell (hW.blk hb1 (no_not _)) i
        go_wp2_with (fail)
        refine ⟨rfl, rfl, Ch.refl _ _, gds_is rfl ?_⟩
        (conv => lhs; whnf)
      · intro vs W hW hd
        simp only [fill, List.setIfInBounds_toArray, List.set_cons_zero, List.set_cons_succ]
        clear hd
        go_wp2_with (fail)
        refine ⟨rfl, rfl, Ch.refl _ _, gds_is rfl ?_⟩
        (conv => lhs; whnf)
      · intro vs W hW hd
        simp only [fill, List.setIfInBounds_toArray, List.set_cons_zero, List.set_cons_succ]
        have d6 := gds_at rfl (hd ⟨6, .data⟩ (by simp) rfl)
        rw [d6]
        clear hd d6
        have hc0 := fun i => bCell (hW.blk hb0 (no_not _)) i
        have hc1 := fun i => bCell (hW.blk hb1 (no_not _)) i
        go_wp2_with (fail)
        refine ⟨rfl, rfl, Ch.refl _ _, gds_is rfl ?_⟩
        (conv => lhs; whnf)
      · intro vs W hW hd
        simp only [fill, List.setIfInBounds_toArray, List.set_cons_zero, List.set_cons_succ]
        have d7 := gds_at rfl (hd ⟨7, .data⟩ (by simp) rfl)
        rw [d7]
        clear hd d7
        have hc0 := fun i => bCell (hW.blk hb0 (no_not _)) i
        have hc1 := fun i => bCell (hW.blk hb1 (no_not _)) i
        go_wp2_with (fail)
        refine ⟨rfl, rfl, Ch.refl _ _, gds_is rfl ?_⟩
        (conv => lhs; whnf)
      · intro vs W hW hd
        simp only [fill, List.setIfInBounds_toArray, List.set_cons_zero, List.set_cons_succ]
        clear hd
        go_wp2_with (fail)
        refine ⟨rfl, rfl, Ch.refl _ _, gds_is rfl ?_⟩
        (conv => lhs; whnf)
      · intro vs W hW hd
        simp only [fill, List.setIfInBounds_toArray, List.set_cons_zero, List.set_cons_succ]
        have d9 := gds_at rfl (hd ⟨9, .data⟩ (by simp) rfl)
        rw [d9]
        clear hd d9
        have hc0 := fun i => bCell (hW.blk hb0 (no_not _)) i
        have hc1 := fun i => bCell (hW.blk hb1 (no_not _)) i
        go_wp2_with (fail)
        refine ⟨rfl, rfl, Ch.refl _ _, gds_is rfl ?_⟩
        (conv => lhs; whnf)
      · intro vs W hW hd
        simp only [fill, List.setIfInBounds_toArray, List.set_cons_zero, List.set_cons_succ]
        have d8 := gds_at rfl (hd ⟨8, .data⟩ (by simp) rfl)
        have d10 := gds_at rfl (hd ⟨10, .data⟩ (by simp) rfl)
        rw [d8, d10]
        clear hd d8 d10
        go_wp2_with (fail)
        refine ⟨rfl, rfl, Ch.refl _ _, gds_is rfl ?_⟩
        (conv => lhs; whnf)
      · intro vs W hW hd
        simp only [fill, List.setIfInBounds_toArray, List.set_cons_zero, List.set_cons_succ]
        have d5 := gds_at rfl (hd ⟨5, .data⟩ (by simp) rfl)
        have d11 := gds_at rfl (hd ⟨11, .data⟩ (by simp) rfl)
        rw [d5, d11]
        clear hd d5 d11
        go_wp2_with (fail)
        refine ⟨rfl, rfl, Ch.refl _ _, gds_is rfl ?_⟩
        (conv => lhs; whnf)
      · intro vs W hW hd
        simp only [fill, List.setIfInBounds_toArray, List.set_cons_zero, List.set_cons_succ]
        have d0 := gds_at rfl (hd ⟨0, .data⟩ (by simp) rfl)
        rw [d0]
        clear hd d0
        go_wp2_with (fail)
        refine ⟨rfl, rfl, Ch.refl _ _, gds_is rfl ?_⟩
        (conv => lhs; whnf)
      · intro vs W hW hd
        simp only [fill, List.setIfInBounds_toArray, List.set_cons_zero, List.set_cons_succ]
        have d13 := gds_at rfl (hd ⟨13, .data⟩ (by simp) rfl)
        rw [d13]
        clear hd d13
        go_wp2_with (fail)
        refine ⟨rfl, rfl, Ch.refl _ _, gds_is rfl ?_⟩
        (conv => lhs; whnf)
      · intro vs W hW hd
        simp only [fill, List.setIfInBounds_toArray, List.set_cons_zero, List.set_cons_succ]
        have d1 := gds_at rfl (hd ⟨1, .data⟩ (by simp) rfl)
        have d14 := gds_at rfl (hd ⟨14, .data⟩ (by simp) rfl)
        rw [d1, d14]
        clear hd d1 d14
        go_wp2_with (fail)
        refine ⟨rfl, rfl, Ch.refl _ _, gds_is rfl ?_⟩
        (conv => lhs; whnf)
    case fin2 =>
      intro vs W hW hd
      simp only [fill, List.setIfInBounds_toArray, List.set_cons_zero, List.set_cons_succ, List.take_succ_cons, List.take_zero, List.drop_succ_cons, List.drop_zero]
      have d0 := gds_at rfl (hd 0 (by omega))
      have d1 := gds_at rfl (hd 1 (by omega))
      have d2 := gds_at rfl (hd 2 (by omega))
      have d3 := gds_at rfl (hd 3 (by omega))
      have d4 := gds_at rfl (hd 4 (by omega))
      have d5 := gds_at rfl (hd 5 (by omega))
      have d6 := gds_at rfl (hd 6 (by omega))
      have d7 := gds_at rfl (hd 7 (by omega))
      have d8 := gds_at rfl (hd 8 (by omega))
      have d9 := gds_at rfl (hd 9 (by omega))
      have d10 := gds_at rfl (hd 10 (by omega))
      have d11 := gds_at rfl (hd 11 (by omega))
      have d12 := gds_at rfl (hd 12 (by omega))
      have d13 := gds_at rfl (hd 13 (by omega))
      have d14 := gds_at rfl (hd 14 (by omega))
      have d15 := gds_at rfl (hd 15 (by omega))
      rw [d0, d1, d2, d3, d4, d5, d6, d7, d8, d9, d10, d11, d12, d13, d14, d15]
      clear hd d0 d1 d2 d3 d4 d5 d6 d7 d8 d9 d10 d11 d12 d13 d14 d15
      have hc1 := (bCell (hW.blk hb1 (no_not _)) 2).trans rfl
      have hf1 := bFree (hW.blk hb1 (no_not _)) 2
      have hc2 := (bCell (hW.blk hb1 (no_not _)) 4).trans rfl
      have hf2 := bFree (hW.blk hb1 (no_not _)) 4
      have hx := bSet (bSet (hW.blk hb1 (no_not _)) 2 (.int .i64 (c0 + ((n : Int) - d)))) 4 (.bool true)
      have hy := ch_one (ch_one (HC.out.drew.same (hW.mono (fun _ h => h.elim))) rfl 2 (.int .i64 (c0 + ((n : Int) - d)))) rfl 4 (.bool true)
      simp only [List.setIfInBounds_toArray, List.set_cons_zero, List.set_cons_succ] at hx
      have HX := Lib.hid hx; have HY := Lib.hid hy
      clear hx hy
      go_wp2_with fail
      go_end0
      exact ⟨rfl, HX.out, HY.out⟩

set_option maxRecDepth 100000 in
set_option maxHeartbeats 8000000 in
theorem take1_of (cl : Clu) (g p d n c : Nat) (A : Option Addr) (w : World) (hg : w.heap[g]? = some (.cells cl.cells 165 (0, 0))) (hp : p ≤ 1000000000) (hd1 : d ≤ 1000000000) (hn : n ≤ 1000000000) (h0 : -1000000000 ≤ cl.m0 ∧ cl.m0 ≤ 1000000000) (h1 : -1000000000 ≤ cl.m1 ∧ cl.m1 ≤ 1000000000) :
    Calls Tryd.prog 144 #[.pointer (some ⟨g, 0, none⟩), .int .i64 1, .agg #[.int .i64 p, .int .i64 d, .slice A n c]] w fun e w' => e = .returned (.tuple #[]) ∧ w'.heap[g]? = some (.cells (cl.take1 p d n).cells 165 (0, 0)) ∧ Ch (one g) w w' := by
  obtain ⟨cf, ct, c0, c1, b0, b1⟩ := cl
  simp only [Clu.cells] at hg h0 h1
  have hgs := blk_lt' hg
  have hw0 : IntKind.i64.wrap ((n : Int) - d) = (n : Int) - d := IntWalk.i64_in _ (by omega)
  have hw1 : IntKind.i64.wrap (c0 + ((n : Int) - d)) = c0 + ((n : Int) - d) := IntWalk.i64_in _ (by omega)
  have hw2 : IntKind.i64.wrap (c1 + ((n : Int) - d)) = c1 + ((n : Int) - d) := IntWalk.i64_in _ (by omega)
  have HG := Lib.hid hg; clear hg
  go_enter Tryd.func144, Tryd.ntmps144
  go_wp2_with fail
  obtain ⟨b, hb⟩ : ∃ b, w.heap.size = b := ⟨_, rfl⟩
  rw [hb]
  have h3 := al1 w (.cells #[.int .i64 p, .int .i64 d, .slice A n c] 188)
  rw [hb] at h3
  refine wp_world (fun W => W.heap[b]? = some (.cells #[.int .i64 p, .int .i64 d, .slice A n c] 188 (0, 0)) ∧ W.heap[g]? = some (.cells #[.int .i64 cf, .int .i64 ct, .int .i64 c0, .int .i64 c1, .bool b0, .bool b1] 165 (0, 0)) ∧ Ch (one g) w W) ⟨h3, ((Ch.refl no w).alloc _).blk HG.out (no_not _), (Ch.refl (one g) w).alloc _⟩ ?_
  clear h3
  rintro W0 ⟨hb0, hb1, hcc⟩
  have HC := Lib.hid hcc
  have hne : b ≠ g := by omega
  have HNE := Lib.hid hne
  clear hb hcc hne
  refine wp_region_tail (G := gds [Gd.is ?r1v0, Gd.is ?r1v1, Gd.is ?r1v2, Gd.is ?r1v3, Gd.is ?r1v4, Gd.is ?r1v5, Gd.is ?r1v6, Gd.is ?r1v7, Gd.is ?r1v8, Gd.is ?r1v9]) 10 (by kernel_rfl) (by kernel_rfl) rfl (by kernel_rfl) gds_st ?obl1 ?fin1
  case obl1 =>
    simp only [Obls, and_true, List.take_succ_cons, List.take_zero]
    refine ⟨?_, ?_, ?_, ?_, ?_, ?_, ?_, ?_, ?_, ?_⟩
    · intro vs W hW hd
      simp only [fill, List.setIfInBounds_toArray, List.set_cons_zero, List.set_cons_succ]
      clear hd
      go_wp2_with (fail)
      refine ⟨rfl, rfl, Ch.refl _ _, gds_is rfl ?_⟩
      (conv => lhs; whnf)
    · intro vs W hW hd
      simp only [fill, List.setIfInBounds_toArray, List.set_cons_zero, List.set_cons_succ]
      clear hd
      go_wp2_with (fail)
      refine ⟨rfl, rfl, Ch.refl _ _, gds_is rfl ?_⟩
      (conv => lhs; whnf)
    · intro vs W hW hd
      simp only [fill, List.setIfInBounds_toArray, List.set_cons_zero, List.set_cons_succ]
      have d1 := gds_at rfl (hd ⟨1, .data⟩ (by simp) rfl)
      rw [d1]
      clear hd d1
      go_wp2_with (fail)
      refine ⟨rfl, rfl, Ch.refl _ _, gds_is rfl ?_⟩
      (conv => lhs; whnf)
    · intro vs W hW hd
      simp only [fill, List.setIfInBounds_toArray, List.set_cons_zero, List.set_cons_succ]
      have d2 := gds_at rfl (hd ⟨2, .data⟩ (by simp) rfl)
      rw [d2]
      clear hd d2
      go_wp2_with (fail)
      refine ⟨rfl, rfl, Ch.refl _ _, gds_is rfl ?_⟩
      (conv => lhs; whnf)
    · intro vs W hW hd
      simp only [fill, List.setIfInBounds_toArray, List.set_cons_zero, List.set_cons_succ]
      have d3 := gds_at rfl (hd ⟨3, .data⟩ (by simp) rfl)
      rw [d3]
      clear hd d3
      have hc0 := fun i => bCell (hW.blk hb0 (no_not _)) i
      have hc1 := fun i => bCell (hW.blk hb1 (no_not _)) i
      go_wp2_with (fail)
      refine ⟨rfl, rfl, Ch.refl _ _, gds_is rfl ?_⟩
      (conv => lhs; whnf)
    · intro vs W hW hd
      simp only [fill, List.setIfInBounds_toArray, List.set_cons_zero, List.set_cons_succ]
      clear hd
      have hc0 := fun i => bCell (hW.blk hb0 (no_not _)) i
      have hc1 := fun i => bCell (hW.blk hb1 (no_not _)) i
      go_wp2_with (fail)
      refine ⟨rfl, rfl, Ch.refl _ _, gds_is rfl ?_⟩
      (conv => lhs; whnf)
    · intro vs W hW hd
      simp only [fill, List.setIfInBounds_toArray, List.set_cons_zero, List.set_cons_succ]
      have d5 := gds_at rfl (hd ⟨5, .data⟩ (by simp) rfl)
      rw [d5]
      clear hd d5
      have hc0 := fun i => bCell (hW.blk hb0 (no_not _)) i
      have hc1 := fun i => bCell (hW.blk hb1 (no_not _)) i
      go_wp2_with (refine (end_of p d (.slice A n c) W ⟨A, n, c, rfl⟩ hp hd1).mono ?_; rintro e w' ⟨rfl, hch⟩)
      refine ⟨rfl, rfl, hch.mono (fun _ h => h.elim), gds_is rfl ?_⟩
      (conv => lhs; whnf)
    · intro vs W hW hd
      simp only [fill, List.setIfInBounds_toArray, List.set_cons_zero, List.set_cons_succ]
      have d4 := gds_at rfl (hd ⟨4, .data⟩ (by simp) rfl)
      have d6 := gds_at rfl (hd ⟨6, .data⟩ (by simp) rfl)
      rw [d4, d6]
      clear hd d4 d6
      have hc0 := fun i => bCell (hW.blk hb0 (no_not _)) i
      have hc1 := fun i => bCell (hW.blk hb1 (no_not _)) i
      have hmx : Builtin.max2 (.int .i64 (ct : Int)) (.int .i64 ((p : Int) + (d : Int))) = pure (.int .i64 ((max ct (p + d) : Nat) : Int)) := by rw [mx2]; congr 2; split <;> omega
      go_wp2_with (fail)
      refine ⟨rfl, rfl, Ch.refl _ _, gds_is rfl ?_⟩
      (conv => lhs; whnf)
    · intro vs W hW hd
      simp only [fill, List.setIfInBounds_toArray, List.set_cons_zero, List.set_cons_succ]
      have d0 := gds_at rfl (hd ⟨0, .data⟩ (by simp) rfl)
      rw [d0]
      clear hd d0
      go_wp2_with (fail)
      refine ⟨rfl, rfl, Ch.refl _ _, gds_is rfl ?_⟩
      (conv => lhs; whnf)
    · intro vs W hW hd
      simp only [fill, List.setIfInBounds_toArray, List.set_cons_zero, List.set_cons_succ]
      have d8 := gds_at rfl (hd ⟨8, .data⟩ (by simp) rfl)
      rw [d8]
      clear hd d8
      go_wp2_with (fail)
      refine ⟨rfl, rfl, Ch.refl _ _, gds_is rfl ?_⟩
      (conv => lhs; whnf)
  case fin1 =>
    intro vs W hW hd
    simp only [fill, List.setIfInBounds_toArray, List.set_cons_zero, List.set_cons_succ, List.take_succ_cons, List.take_zero, List.drop_succ_cons, List.drop_zero]
    have d0 := gds_at rfl (hd 0 (by omega))
    have d1 := gds_at rfl (hd 1 (by omega))
    have d2 := gds_at rfl (hd 2 (by omega))
    have d3 := gds_at rfl (hd 3 (by omega))
    have d4 := gds_at rfl (hd 4 (by omega))
    have d5 := gds_at rfl (hd 5 (by omega))
    have d6 := gds_at rfl (hd 6 (by omega))
    have d7 := gds_at rfl (hd 7 (by omega))
    have d8 := gds_at rfl (hd 8 (by omega))
    have d9 := gds_at rfl (hd 9 (by omega))
    rw [d0, d1, d2, d3, d4, d5, d6, d7, d8, d9]
    clear hd d0 d1 d2 d3 d4 d5 d6 d7 d8 d9
    have hc1 := (bCell (hW.blk hb1 (no_not _)) 1).trans rfl
    have hf1 := bFree (hW.blk hb1 (no_not _)) 1
    go_wp2_with fail
    have hx := bSet (hW.blk hb1 (no_not _)) 1 (.int .i64 (max ct (p + d) : Nat))
    have hz := blk_set (hW.blk hb0 (no_not _)) HNE.out 1 (.int .i64 (max ct (p + d) : Nat))
    have hy := ch_one (HC.out.drew.same (hW.mono (fun _ h => h.elim))) rfl 1 (.int .i64 (max ct (p + d) : Nat))
    simp only [List.setIfInBounds_toArray, List.set_cons_zero, List.set_cons_succ] at hx
    refine wp_world (fun W => W.heap[b]? = some (.cells #[.int .i64 p, .int .i64 d, .slice A n c] 188 (0, 0)) ∧ W.heap[g]? = some (.cells #[.int .i64 cf, .int .i64 (max ct (p + d) : Nat), .int .i64 c0, .int .i64 c1, .bool b0, .bool b1] 165 (0, 0)) ∧ Ch (one g) w W) ⟨hz, hx, hy⟩ ?_
    clear hx hy hz hc1 hf1
    rintro W0 ⟨hb0, hb1, hcc⟩
    have HC := Lib.hid hcc; clear hcc
    refine wp_region_tail (G := gds [Gd.is ?r2v0, Gd.is ?r2v1, Gd.is ?r2v2, Gd.is ?r2v3, Gd.is ?r2v4, Gd.is ?r2v5, Gd.is ?r2v6, Gd.is ?r2v7, Gd.is ?r2v8, Gd.is ?r2v9, Gd.is ?r2v10, Gd.is ?r2v11, Gd.is ?r2v12, Gd.is ?r2v13, Gd.is ?r2v14, Gd.is ?r2v15]) 16 (by kernel_rfl) (by kernel_rfl) rfl (by kernel_rfl) gds_st ?obl2 ?fin2
    case obl2 =>
      simp only [Obls, and_true, List.take_succ_cons, List.take_zero]
      refine ⟨?_, ?_, ?_, ?_, ?_, ?_, ?_, ?_, ?_, ?_, ?_, ?_, ?_, ?_, ?_, ?_⟩
      · intro vs W hW hd
        simp only [fill, List.setIfInBounds_toArray, List.set_cons_zero, List.set_cons_succ]
        clear hd
        go_wp2_with (fail)
        refine ⟨rfl, rfl, Ch.refl _ _, gds_is rfl ?_⟩
        (conv => lhs; whnf)
      · intro vs W hW hd
        simp only [fill, List.setIfInBounds_toArray, List.set_cons_zero, List.set_cons_succ]
        clear hd
        go_wp2_with (fail)
        refine ⟨rfl, rfl, Ch.refl _ _, gds_is rfl ?_⟩
        (conv => lhs; whnf)
      · intro vs W hW hd
        simp only [fill, List.setIfInBounds_toArray, List.set_cons_zero, List.set_cons_succ]
        have d0 := gds_at rfl (hd ⟨0, .data⟩ (by simp) rfl)
        rw [d0]
        clear hd d0
        go_wp2_with (fail)
        refine ⟨rfl, rfl, Ch.refl _ _, gds_is rfl ?_⟩
        (conv => lhs; whnf)
      · intro vs W hW hd
        simp only [fill, List.setIfInBounds_toArray, List.set_cons_zero, List.set_cons_succ]
        have d2 := gds_at rfl (hd ⟨2, .data⟩ (by simp) rfl)
        rw [d2]
        clear hd d2
        go_wp2_with (fail)
        refine ⟨rfl, rfl, Ch.refl _ _, gds_is rfl ?_⟩
        (conv => lhs; whnf)
      · intro vs W hW hd
        simp only [fill, List.setIfInBounds_toArray, List.set_cons_zero, List.set_cons_succ]
        have d1 := gds_at rfl (hd ⟨1, .data⟩ (by simp) rfl)
        have d3 := gds_at rfl (hd ⟨3, .data⟩ (by simp) rfl)
        rw [d1, d3]
        clear hd d1 d3
        go_wp2_with (fail)
        refine ⟨rfl, rfl, Ch.refl _ _, gds_is rfl ?_⟩
        (conv => lhs; whnf)
      · intro vs W hW hd
        simp only [fill, List.setIfInBounds_toArray, List.set_cons_zero, List.set_cons_succ]
        have d4 := gds_at rfl (hd ⟨4, .data⟩ (by simp) rfl)
        rw [d4]
        clear hd d4
        have hc0 := fun i => bCell (hW.blk hb0 (no_not _)) i
        have hc1 := fun i => bCell (hW.blk hb1 (no_not _)) i
        go_wp2_with (fail)
        refine ⟨rfl, rfl, Ch.refl _ _, gds_is rfl ?_⟩
        (conv => lhs; whnf)
      · intro vs W hW hd
        simp only [fill, List.setIfInBounds_toArray, List.set_cons_zero, List.set_cons_succ]
        clear hd
        go_wp2_with (fail)
        refine ⟨rfl, rfl, Ch.refl _ _, gds_is rfl ?_⟩
        (conv => lhs; whnf)
      · intro vs W hW hd
        simp only [fill, List.setIfInBounds_toArray, List.set_cons_zero, List.set_cons_succ]
        have d6 := gds_at rfl (hd ⟨6, .data⟩ (by simp) rfl)
        rw [d6]
        clear hd d6
        have hc0 := fun i => bCell (hW.blk hb0 (no_not _)) i
        have hc1 := fun i => bCell (hW.blk hb1 (no_not _)) i
        go_wp2_with (fail)
        refine ⟨rfl, rfl, Ch.refl _ _, gds_is rfl ?_⟩
        (conv => lhs; whnf)
      · intro vs W hW hd
        simp only [fill, List.setIfInBounds_toArray, List.set_cons_zero, List.set_cons_succ]
        have d7 := gds_at rfl (hd ⟨7, .data⟩ (by simp) rfl)
        rw [d7]
        clear hd d7
        have hc0 := fun i => bCell (hW.blk hb0 (no_not _)) i
        have hc1 := fun i => bCell (hW.blk hb1 (no_not _)) i
        go_wp2_with (fail)
        refine ⟨rfl, rfl, Ch.refl _ _, gds_is rfl ?_⟩
        (conv => lhs; whnf)
      · intro vs W hW hd
        simp only [fill, List.setIfInBounds_toArray, List.set_cons_zero, List.set_cons_succ]
        clear hd
        go_wp2_with (fail)
        refine ⟨rfl, rfl, Ch.refl _ _, gds_is rfl ?_⟩
        (conv => lhs; whnf)
      · intro vs W hW hd
        simp only [fill, List.setIfInBounds_toArray, List.set_cons_zero, List.set_cons_succ]
        have d9 := gds_at rfl (hd ⟨9, .data⟩ (by simp) rfl)
        rw [d9]
        clear hd d9
        have hc0 := fun i => bCell (hW.blk hb0 (no_not _)) i
        have hc1 := fun i => bCell (hW.blk hb1 (no_not _)) i
        go_wp2_with (fail)
        refine ⟨rfl, rfl, Ch.refl _ _, gds_is rfl ?_⟩
        (conv => lhs; whnf)
      · intro vs W hW hd
        simp only [fill, List.setIfInBounds_toArray, List.set_cons_zero, List.set_cons_succ]
        have d8 := gds_at rfl (hd ⟨8, .data⟩ (by simp) rfl)
        have d10 := gds_at rfl (hd ⟨10, .data⟩ (by simp) rfl)
        rw [d8, d10]
        clear hd d8 d10
        go_wp2_with (fail)
        refine ⟨rfl, rfl, Ch.refl _ _, gds_is rfl ?_⟩
        (conv => lhs; whnf)
      · intro vs W hW hd
        simp only [fill, List.setIfInBounds_toArray, List.set_cons_zero, List.set_cons_succ]
        have d5 := gds_at rfl (hd ⟨5, .data⟩ (by simp) rfl)
        have d11 := gds_at rfl (hd ⟨11, .data⟩ (by simp) rfl)
        rw [d5, d11]
        clear hd d5 d11
        go_wp2_with (fail)
        refine ⟨rfl, rfl, Ch.refl _ _, gds_is rfl ?_⟩
        (conv => lhs; whnf)
      · intro vs W hW hd
        simp only [fill, List.setIfInBounds_toArray, List.set_cons_zero, List.set_cons_succ]
        have d0 := gds_at rfl (hd ⟨0, .data⟩ (by simp) rfl)
        rw [d0]
        clear hd d0
        go_wp2_with (fail)
        refine ⟨rfl, rfl, Ch.refl _ _, gds_is rfl ?_⟩
        (conv => lhs; whnf)
      · intro vs W hW hd
        simp only [fill, List.setIfInBounds_toArray, List.set_cons_zero, List.set_cons_succ]
        have d13 := gds_at rfl (hd ⟨13, .data⟩ (by simp) rfl)
        rw [d13]
        clear hd d13
        go_wp2_with (fail)
        refine ⟨rfl, rfl, Ch.refl _ _, gds_is rfl ?_⟩
        (conv => lhs; whnf)
      · intro vs W hW hd
        simp only [fill, List.setIfInBounds_toArray, List.set_cons_zero, List.set_cons_succ]
        have d1 := gds_at rfl (hd ⟨1, .data⟩ (by simp) rfl)
        have d14 := gds_at rfl (hd ⟨14, .data⟩ (by simp) rfl)
        rw [d1, d14]
        clear hd d1 d14
        go_wp2_with (fail)
        refine ⟨rfl, rfl, Ch.refl _ _, gds_is rfl ?_⟩
        (conv => lhs; whnf)
    case fin2 =>
      intro vs W hW hd
      simp only [fill, List.setIfInBounds_toArray, List.set_cons_zero, List.set_cons_succ, List.take_succ_cons, List.take_zero, List.drop_succ_cons, List.drop_zero]
      have d0 := gds_at rfl (hd 0 (by omega))
      have d1 := gds_at rfl (hd 1 (by omega))
      have d2 := gds_at rfl (hd 2 (by omega))
      have d3 := gds_at rfl (hd 3 (by omega))
      have d4 := gds_at rfl (hd 4 (by omega))
      have d5 := gds_at rfl (hd 5 (by omega))
      have d6 := gds_at rfl (hd 6 (by omega))
      have d7 := gds_at rfl (hd 7 (by omega))
      have d8 := gds_at rfl (hd 8 (by omega))
      have d9 := gds_at rfl (hd 9 (by omega))
      have d10 := gds_at rfl (hd 10 (by omega))
      have d11 := gds_at rfl (hd 11 (by omega))
      have d12 := gds_at rfl (hd 12 (by omega))
      have d13 := gds_at rfl (hd 13 (by omega))
      have d14 := gds_at rfl (hd 14 (by omega))
      have d15 := gds_at rfl (hd 15 (by omega))
      rw [d0, d1, d2, d3, d4, d5, d6, d7, d8, d9, d10, d11, d12, d13, d14, d15]
      clear hd d0 d1 d2 d3 d4 d5 d6 d7 d8 d9 d10 d11 d12 d13 d14 d15
      have hc1 := (bCell (hW.blk hb1 (no_not _)) 3).trans rfl
      have hf1 := bFree (hW.blk hb1 (no_not _)) 3
      have hc2 := (bCell (hW.blk hb1 (no_not _)) 5).trans rfl
      have hf2 := bFree (hW.blk hb1 (no_not _)) 5
      have hx := bSet (bSet (hW.blk hb1 (no_not _)) 3 (.int .i64 (c1 + ((n : Int) - d)))) 5 (.bool true)
      have hy := ch_one (ch_one (HC.out.drew.same (hW.mono (fun _ h => h.elim))) rfl 3 (.int .i64 (c1 + ((n : Int) - d)))) rfl 5 (.bool true)
      simp only [List.setIfInBounds_toArray, List.set_cons_zero, List.set_cons_succ] at hx
      have HX := Lib.hid hx; have HY := Lib.hid hy
      clear hx hy
      go_wp2_with fail
      go_end0
      exact ⟨rfl, HX.out, HY.out⟩

/-- A cluster's region's kind. -/
def kindOf (cl : Clu) (xs ys : List ByteArray) : Int := if cl.h1 = false then 1 else if cl.h0 = false then 2 else if xs = ys then 3 else 4
abbrev Clu.val (c : Clu) : Value := .agg c.cells

theorem kind_of (cl : Clu) (A B : Option Addr) (c d : Nat) (xs ys : List ByteArray) (w : World) (hx : El.str.Row w A c xs) (hy : El.str.Row w B d ys) :
    Calls Tryd.prog 129 #[cl.val, .slice A xs.length c, .slice B ys.length d] w fun e w' => e = .returned (.int .i64 (kindOf cl xs ys)) ∧ Ch no w w' := by
  obtain ⟨cf, ct, c0, c1, b0, b1⟩ := cl
  simp only [Clu.val, Clu.cells]
  have HX := Lib.hid (hx.ch ((Ch.refl no w).alloc (.cells #[.int .i64 cf, .int .i64 ct, .int .i64 c0, .int .i64 c1, .bool b0, .bool b1] 165)))
  have HY := Lib.hid (hy.ch ((Ch.refl no w).alloc (.cells #[.int .i64 cf, .int .i64 ct, .int .i64 c0, .int .i64 c1, .bool b0, .bool b1] 165)))
  clear hx hy
  cases b1 with
  | false =>
    go_enter Tryd.func129, Tryd.ntmps129
    go_wp2_with fail
    go_ret
    exact ⟨rfl, (Ch.refl no w).alloc _⟩
  | true =>
    cases b0 with
    | false =>
      go_enter Tryd.func129, Tryd.ntmps129
      go_wp2_with fail
      go_ret
      exact ⟨rfl, (Ch.refl no w).alloc _⟩
    | true =>
      by_cases he : xs = ys
      · have hk : Hid (kindOf ⟨cf, ct, c0, c1, true, true⟩ xs ys = 3) := Lib.hid (by simp [kindOf, he])
        have HB : Hid (decide (xs = ys) = true) := Lib.hid (decide_eq_true he)
        clear he
        go_enter Tryd.func129, Tryd.ntmps129
        go_wp2_with fail
        refine (equal_any A B c d xs ys _ HX.out HY.out).mono ?_
        rintro e w' ⟨rfl, hd⟩
        rw [HB.out]
        have HD := Lib.hid hd; clear hd
        go_wp2_with fail
        go_ret
        exact ⟨by rw [hk.out]; rfl, ((Ch.refl no w).alloc _).same (HD.out.ch no)⟩
      · have hk : Hid (kindOf ⟨cf, ct, c0, c1, true, true⟩ xs ys = 4) := Lib.hid (by simp [kindOf, he])
        have HB : Hid (decide (xs = ys) = false) := Lib.hid (decide_eq_false he)
        clear he
        go_enter Tryd.func129, Tryd.ntmps129
        go_wp2_with fail
        refine (equal_any A B c d xs ys _ HX.out HY.out).mono ?_
        rintro e w' ⟨rfl, hd⟩
        rw [HB.out]
        have HD := Lib.hid hd; clear hd
        go_wp2_with fail
        go_ret
        exact ⟨by rw [hk.out]; rfl, ((Ch.refl no w).alloc _).same (HD.out.ch no)⟩

theorem acut_any (A : Option Addr) (c : Nat) (xs : List ByteArray) (f m : Int) (w : World) (hx : El.str.Row w A c xs) (h0 : 0 ≤ f) (h1 : 0 ≤ m) (h2 : f + m ≤ xs.length) :
    Calls Tryd.prog 130 #[.slice A xs.length c, .agg #[.int .i64 f, .int .i64 m]] w fun e w' => ∃ A' c', e = .returned (.slice A' (cutL xs f m).length c') ∧ El.str.Row w' A' c' (cutL xs f m) ∧ Ch no w w' := by
  have hl := hx.len
  have hc := hx.le
  obtain ⟨i0, hi, hz0, hz1, hz2⟩ := info_parts infoStr
  obtain ⟨A', hcut, hrow⟩ := cut_lh (P := Tryd.prog) (d := El.str) 25 9 .i64 .i64 Tryd.underlying25 hi hz1 A c xs f (f + m) h0 (by omega) h2 hc
  have HR := Lib.hid (hrow w hx); clear hrow
  have HX := Lib.hid hx; clear hx hi hz0 hz1 hz2
  go_enter Tryd.func130, Tryd.ntmps130
  go_wp2_with fail
  go_ret
  exact ⟨A', c - f.toNat, by rw [cutL_len xs f m h0 h1 h2]; rfl, HR.out.ch ((Ch.refl _ _).alloc _), (Ch.refl _ _).alloc _⟩

end Go.Proofs.YtekeiieefkgopaaDoor.Nb
