/- The small functions of align. -/
import Derived.Test.YtekeiieefkgopaaDoorMi
import Derived.Test.YtekeiieefkgopaaDoorMc
import Derived.Test.YtekeiieefkgopaaDoorMt
import Derived.BigRegion
import Derived.Handy
import Derived.Deep.RegionHeld3
namespace Go.Proofs.YtekeiieefkgopaaDoor.Na
open Go.RowKit Go.Proofs.YtekeiieefkgopaaDoor.Aa Go.Proofs.YtekeiieefkgopaaDoor.Vw Go.Proofs.YtekeiieefkgopaaDoor.Ma Go.Proofs.YtekeiieefkgopaaDoor.Mr Go.Proofs.YtekeiieefkgopaaDoor.Mb Go.Proofs.YtekeiieefkgopaaDoor.Mc Go.Proofs.YtekeiieefkgopaaDoor.Me Go.Proofs.YtekeiieefkgopaaDoor.Mf Go.Proofs.YtekeiieefkgopaaDoor.Mg Go.Proofs.YtekeiieefkgopaaDoor.Mh Go.Proofs.YtekeiieefkgopaaDoor.Mt
attribute [local go_sem] mx2 mn2 mxOp mnOp
set_option linter.unusedVariables false
set_option linter.unusedSimpArgs false

theorem end_of (p d : Nat) (v : Value) (w : World) (hv : ∃ A n c, v = .slice A n c) (hp : p ≤ 1000000000) (hd : d ≤ 1000000000) :
    Calls Tryd.prog 153 #[.agg #[.int .i64 p, .int .i64 d, v]] w fun e w' => e = .returned (.int .i64 (p + d : Nat)) ∧ Ch no w w' := by
  obtain ⟨A, n, c, rfl⟩ := hv
  go_enter Tryd.func153, Tryd.ntmps153
  go_wp2_with fail
  go_ret
  exact ⟨by go_num, (Ch.refl no w).alloc _⟩

theorem behind_of (f m k : Int) (w : World) (hf : -1000000000 ≤ f ∧ f ≤ 1000000000) (hm : -1000000000 ≤ m ∧ m ≤ 1000000000) :
    Calls Tryd.prog 142 #[.agg #[.int .i64 f, .int .i64 m], .int .i64 k] w fun e w' => e = .returned (.agg #[.int .i64 (f + m), .int .i64 k]) ∧ Ch no w w' := by
  have hw : IntKind.i64.wrap (f + m) = f + m := IntWalk.i64_in _ (by omega)
  go_enter Tryd.func142, Tryd.ntmps142
  go_wp2_with fail
  go_returns
  exact ⟨by rfl, ((Ch.refl no w).alloc _).alloc _⟩

/-- The region behind one. -/
def nextR (r : Reg) (many m0 m1 : Int) : Reg := ⟨0, r.of + r.om, many, r.af + r.am, many + m0, r.bf + r.bm, many + m1⟩
def smallR (r : Reg) : Prop := (-1000000000 ≤ r.of ∧ r.of ≤ 1000000000) ∧ (-1000000000 ≤ r.om ∧ r.om ≤ 1000000000) ∧ (-1000000000 ≤ r.af ∧ r.af ≤ 1000000000) ∧ (-1000000000 ≤ r.am ∧ r.am ≤ 1000000000) ∧ (-1000000000 ≤ r.bf ∧ r.bf ≤ 1000000000) ∧ (-1000000000 ≤ r.bm ∧ r.bm ≤ 1000000000)

/-- Blocks that were just made. -/
theorem al1 (w : World) (x : Obj) : (w.alloc x).heap[w.heap.size]? = some x := bNew w x
theorem al2 (w : World) (x y : Obj) : ((w.alloc x).alloc y).heap[w.heap.size]? = some x ∧ ((w.alloc x).alloc y).heap[w.heap.size + 1]? = some y :=
  ⟨((Ch.refl no _).alloc y).blk (al1 w x) (no_not _), by have := al1 (w.alloc x) y; simpa using this⟩
theorem al3 (w : World) (x y z : Obj) : (((w.alloc x).alloc y).alloc z).heap[w.heap.size]? = some x ∧ (((w.alloc x).alloc y).alloc z).heap[w.heap.size + 1]? = some y ∧ (((w.alloc x).alloc y).alloc z).heap[w.heap.size + 2]? = some z :=
  ⟨((Ch.refl no _).alloc z).blk (al2 w x y).1 (no_not _), ((Ch.refl no _).alloc z).blk (al2 w x y).2 (no_not _), by have := al1 ((w.alloc x).alloc y) z; simpa using this⟩

set_option maxRecDepth 100000 in
set_option maxHeartbeats 8000000 in
theorem next_of (r : Reg) (many m0 m1 : Int) (w : World) (hr : smallR r) (h0 : -1000000000 ≤ many ∧ many ≤ 1000000000) (h1 : -1000000000 ≤ m0 ∧ m0 ≤ 1000000000) (h2 : -1000000000 ≤ m1 ∧ m1 ≤ 1000000000) :
    Calls Tryd.prog 126 #[r.val, .int .i64 many, .agg #[.int .i64 m0, .int .i64 m1]] w fun e w' => e = .returned (nextR r many m0 m1).val ∧ Ch no w w' := by
  obtain ⟨k, of, om, af, am, bf, bm⟩ := r
  obtain ⟨r1, r2, r3, r4, r5, r6⟩ := hr
  simp only [] at r1 r2 r3 r4 r5 r6
  have hw0 : IntKind.i64.wrap (many + m0) = many + m0 := IntWalk.i64_in _ (by omega)
  have hw1 : IntKind.i64.wrap (many + m1) = many + m1 := IntWalk.i64_in _ (by omega)
  go_enter Tryd.func126, Tryd.ntmps126
  go_wp2_with fail
  obtain ⟨b, hb⟩ : ∃ b, w.heap.size = b := ⟨_, rfl⟩
  rw [hb]
  have h3 := al3 w (.cells #[.int .i64 k, .int .i64 of, .int .i64 om, .int .i64 af, .int .i64 am, .int .i64 bf, .int .i64 bm] 144) (.cells #[.int .i64 m0, .int .i64 m1] 153) (.cells #[.int .i64 0, .int .i64 0, .int .i64 0, .int .i64 0, .int .i64 0, .int .i64 0, .int .i64 0] 144)
  rw [hb] at h3
  refine wp_world (fun W => W.heap[b]? = some (.cells #[.int .i64 k, .int .i64 of, .int .i64 om, .int .i64 af, .int .i64 am, .int .i64 bf, .int .i64 bm] 144 (0, 0)) ∧ W.heap[b + 1]? = some (.cells #[.int .i64 m0, .int .i64 m1] 153 (0, 0)) ∧ W.heap[b + 2]? = some (.cells #[.int .i64 0, .int .i64 0, .int .i64 0, .int .i64 0, .int .i64 0, .int .i64 0, .int .i64 0] 144 (0, 0)) ∧ Ch no w W) ⟨h3.1, h3.2.1, h3.2.2, (((Ch.refl no w).alloc _).alloc _).alloc _⟩ ?_
  clear h3
  rintro W0 ⟨hb0, hb1, hb2, hc0⟩
  have HB := Lib.hid hb; have HC0 := Lib.hid hc0
  clear hb hc0
-- <next
  refine wp_region_tail (G := gds [Gd.is ?v0, Gd.is ?v1, Gd.is ?v2, Gd.is ?v3, Gd.is ?v4, Gd.is ?v5, Gd.is ?v6, Gd.is ?v7, Gd.is ?v8, Gd.is ?v9, Gd.is ?v10, Gd.is ?v11, Gd.is ?v12, Gd.is ?v13, Gd.is ?v14, Gd.is ?v15, Gd.is ?v16, Gd.is ?v17, Gd.is ?v18]) 19 (by kernel_rfl) (by kernel_rfl) rfl (by kernel_rfl) gds_st ?obl ?fin
  case obl =>
    simp only [Obls, and_true, List.take_succ_cons, List.take_zero]
    refine ⟨?_, ?_, ?_, ?_, ?_, ?_, ?_, ?_, ?_, ?_, ?_, ?_, ?_, ?_, ?_, ?_, ?_, ?_, ?_⟩
    · intro vs W hW hd
      simp only [fill, List.setIfInBounds_toArray, List.set_cons_zero, List.set_cons_succ]
      clear hd
      go_wp2_with (fail)
      refine ⟨rfl, rfl, Ch.refl _ _, gds_is rfl ?_⟩
      (conv => lhs; whnf)
    · intro vs W hW hd
      simp only [fill, List.setIfInBounds_toArray, List.set_cons_zero, List.set_cons_succ]
      have d0 := gds_at rfl (hd ⟨0, .data⟩ (by simp) rfl)
      rw [d0]
      clear hd d0
      have hc0 := fun i => bCell (hW.blk hb0 (no_not _)) i
      have hc1 := fun i => bCell (hW.blk hb1 (no_not _)) i
      go_wp2_with (fail)
      refine ⟨rfl, rfl, Ch.refl _ _, gds_is rfl ?_⟩
      (conv => lhs; whnf)
    · intro vs W hW hd
      simp only [fill, List.setIfInBounds_toArray, List.set_cons_zero, List.set_cons_succ]
      clear hd
      go_wp2_with (fail)
      refine ⟨rfl, rfl, Ch.refl _ _, gds_is rfl ?_⟩
      (conv => lhs; whnf)
    · intro vs W hW hd
      simp only [fill, List.setIfInBounds_toArray, List.set_cons_zero, List.set_cons_succ]
      have d1 := gds_at rfl (hd ⟨1, .data⟩ (by simp) rfl)
      have d2 := gds_at rfl (hd ⟨2, .data⟩ (by simp) rfl)
      rw [d1, d2]
      clear hd d1 d2
      have hc0 := fun i => bCell (hW.blk hb0 (no_not _)) i
      have hc1 := fun i => bCell (hW.blk hb1 (no_not _)) i
      go_wp2_with (refine (behind_of of om many W r1 r2).mono ?_; rintro e w' ⟨rfl, hch⟩)
      refine ⟨rfl, rfl, hch.mono (fun _ h => h.elim), gds_is rfl ?_⟩
      (conv => lhs; whnf)
    · intro vs W hW hd
      simp only [fill, List.setIfInBounds_toArray, List.set_cons_zero, List.set_cons_succ]
      clear hd
      go_wp2_with (fail)
      refine ⟨rfl, rfl, Ch.refl _ _, gds_is rfl ?_⟩
      (conv => lhs; whnf)
    · intro vs W hW hd
      simp only [fill, List.setIfInBounds_toArray, List.set_cons_zero, List.set_cons_succ]
      have d4 := gds_at rfl (hd ⟨4, .data⟩ (by simp) rfl)
      rw [d4]
      clear hd d4
      have hc0 := fun i => bCell (hW.blk hb0 (no_not _)) i
      have hc1 := fun i => bCell (hW.blk hb1 (no_not _)) i
      go_wp2_with (fail)
      refine ⟨rfl, rfl, Ch.refl _ _, gds_is rfl ?_⟩
      (conv => lhs; whnf)
    · intro vs W hW hd
      simp only [fill, List.setIfInBounds_toArray, List.set_cons_zero, List.set_cons_succ]
      clear hd
      go_wp2_with (fail)
      refine ⟨rfl, rfl, Ch.refl _ _, gds_is rfl ?_⟩
      (conv => lhs; whnf)
    · intro vs W hW hd
      simp only [fill, List.setIfInBounds_toArray, List.set_cons_zero, List.set_cons_succ]
      clear hd
      go_wp2_with (fail)
      refine ⟨rfl, rfl, Ch.refl _ _, gds_is rfl ?_⟩
      (conv => lhs; whnf)
    · intro vs W hW hd
      simp only [fill, List.setIfInBounds_toArray, List.set_cons_zero, List.set_cons_succ]
      have d7 := gds_at rfl (hd ⟨7, .data⟩ (by simp) rfl)
      rw [d7]
      clear hd d7
      have hc0 := fun i => bCell (hW.blk hb0 (no_not _)) i
      have hc1 := fun i => bCell (hW.blk hb1 (no_not _)) i
      go_wp2_with (fail)
      refine ⟨rfl, rfl, Ch.refl _ _, gds_is rfl ?_⟩
      (conv => lhs; whnf)
    · intro vs W hW hd
      simp only [fill, List.setIfInBounds_toArray, List.set_cons_zero, List.set_cons_succ]
      have d6 := gds_at rfl (hd ⟨6, .data⟩ (by simp) rfl)
      have d8 := gds_at rfl (hd ⟨8, .data⟩ (by simp) rfl)
      rw [d6, d8]
      clear hd d6 d8
      go_wp2_with (fail)
      refine ⟨rfl, rfl, Ch.refl _ _, gds_is rfl ?_⟩
      (conv => lhs; whnf)
    · intro vs W hW hd
      simp only [fill, List.setIfInBounds_toArray, List.set_cons_zero, List.set_cons_succ]
      have d5 := gds_at rfl (hd ⟨5, .data⟩ (by simp) rfl)
      have d9 := gds_at rfl (hd ⟨9, .data⟩ (by simp) rfl)
      rw [d5, d9]
      clear hd d5 d9
      have hc0 := fun i => bCell (hW.blk hb0 (no_not _)) i
      have hc1 := fun i => bCell (hW.blk hb1 (no_not _)) i
      go_wp2_with (refine (behind_of af am (many + m0) W r3 r4).mono ?_; rintro e w' ⟨rfl, hch⟩)
      refine ⟨rfl, rfl, hch.mono (fun _ h => h.elim), gds_is rfl ?_⟩
      (conv => lhs; whnf)
    · intro vs W hW hd
      simp only [fill, List.setIfInBounds_toArray, List.set_cons_zero, List.set_cons_succ]
      clear hd
      go_wp2_with (fail)
      refine ⟨rfl, rfl, Ch.refl _ _, gds_is rfl ?_⟩
      (conv => lhs; whnf)
    · intro vs W hW hd
      simp only [fill, List.setIfInBounds_toArray, List.set_cons_zero, List.set_cons_succ]
      have d11 := gds_at rfl (hd ⟨11, .data⟩ (by simp) rfl)
      rw [d11]
      clear hd d11
      have hc0 := fun i => bCell (hW.blk hb0 (no_not _)) i
      have hc1 := fun i => bCell (hW.blk hb1 (no_not _)) i
      go_wp2_with (fail)
      refine ⟨rfl, rfl, Ch.refl _ _, gds_is rfl ?_⟩
      (conv => lhs; whnf)
    · intro vs W hW hd
      simp only [fill, List.setIfInBounds_toArray, List.set_cons_zero, List.set_cons_succ]
      clear hd
      go_wp2_with (fail)
      refine ⟨rfl, rfl, Ch.refl _ _, gds_is rfl ?_⟩
      (conv => lhs; whnf)
    · intro vs W hW hd
      simp only [fill, List.setIfInBounds_toArray, List.set_cons_zero, List.set_cons_succ]
      clear hd
      go_wp2_with (fail)
      refine ⟨rfl, rfl, Ch.refl _ _, gds_is rfl ?_⟩
      (conv => lhs; whnf)
    · intro vs W hW hd
      simp only [fill, List.setIfInBounds_toArray, List.set_cons_zero, List.set_cons_succ]
      have d14 := gds_at rfl (hd ⟨14, .data⟩ (by simp) rfl)
      rw [d14]
      clear hd d14
      have hc0 := fun i => bCell (hW.blk hb0 (no_not _)) i
      have hc1 := fun i => bCell (hW.blk hb1 (no_not _)) i
      go_wp2_with (fail)
      refine ⟨rfl, rfl, Ch.refl _ _, gds_is rfl ?_⟩
      (conv => lhs; whnf)
    · intro vs W hW hd
      simp only [fill, List.setIfInBounds_toArray, List.set_cons_zero, List.set_cons_succ]
      have d13 := gds_at rfl (hd ⟨13, .data⟩ (by simp) rfl)
      have d15 := gds_at rfl (hd ⟨15, .data⟩ (by simp) rfl)
      rw [d13, d15]
      clear hd d13 d15
      go_wp2_with (fail)
      refine ⟨rfl, rfl, Ch.refl _ _, gds_is rfl ?_⟩
      (conv => lhs; whnf)
    · intro vs W hW hd
      simp only [fill, List.setIfInBounds_toArray, List.set_cons_zero, List.set_cons_succ]
      have d12 := gds_at rfl (hd ⟨12, .data⟩ (by simp) rfl)
      have d16 := gds_at rfl (hd ⟨16, .data⟩ (by simp) rfl)
      rw [d12, d16]
      clear hd d12 d16
      have hc0 := fun i => bCell (hW.blk hb0 (no_not _)) i
      have hc1 := fun i => bCell (hW.blk hb1 (no_not _)) i
      go_wp2_with (refine (behind_of bf bm (many + m1) W r5 r6).mono ?_; rintro e w' ⟨rfl, hch⟩)
      refine ⟨rfl, rfl, hch.mono (fun _ h => h.elim), gds_is rfl ?_⟩
      (conv => lhs; whnf)
    · intro vs W hW hd
      simp only [fill, List.setIfInBounds_toArray, List.set_cons_zero, List.set_cons_succ]
      have d3 := gds_at rfl (hd ⟨3, .data⟩ (by simp) rfl)
      have d10 := gds_at rfl (hd ⟨10, .data⟩ (by simp) rfl)
      have d17 := gds_at rfl (hd ⟨17, .data⟩ (by simp) rfl)
      rw [d3, d10, d17]
      clear hd d3 d10 d17
      go_wp2_with (fail)
      refine ⟨rfl, rfl, Ch.refl _ _, gds_is rfl ?_⟩
      (conv => lhs; whnf)
  case fin =>
    intro vs W hW hd
    simp only [fill, List.setIfInBounds_toArray, List.set_cons_zero, List.set_cons_succ, List.take_succ_cons, List.take_zero, List.drop_succ_cons, List.drop_zero]
    have d0 := gds_at rfl (hd 0 (by omega))
    have d1 := gds_at rfl (hd 1 (by omega))
    have d2 := gds_at rfl (hd 2 (by omega))
    have d3 := gds_at rfl (hd 3 (by omega))
    have d4 := gds_at rfl (hd 4 (by omega))
    have d5 := gds_at rfl (hd 5 (by omega))
    have d6 := gds_at rfl (hd 6 (by omega))
    have d7 := gds_at rfl (hd 7 (by omega))
    have d8 := gds_at rfl (hd 8 (by omega))
    have d9 := gds_at rfl (hd 9 (by omega))
    have d10 := gds_at rfl (hd 10 (by omega))
    have d11 := gds_at rfl (hd 11 (by omega))
    have d12 := gds_at rfl (hd 12 (by omega))
    have d13 := gds_at rfl (hd 13 (by omega))
    have d14 := gds_at rfl (hd 14 (by omega))
    have d15 := gds_at rfl (hd 15 (by omega))
    have d16 := gds_at rfl (hd 16 (by omega))
    have d17 := gds_at rfl (hd 17 (by omega))
    have d18 := gds_at rfl (hd 18 (by omega))
    rw [d0, d1, d2, d3, d4, d5, d6, d7, d8, d9, d10, d11, d12, d13, d14, d15, d16, d17, d18]
    clear hd d0 d1 d2 d3 d4 d5 d6 d7 d8 d9 d10 d11 d12 d13 d14 d15 d16 d17 d18
-- next>
    have hc2 := fun i => bCell (hW.blk hb2 (no_not _)) i
    have hf2 := fun i => bFree (hW.blk hb2 (no_not _)) i
    go_wp2_with fail
    have hq := (HC0.out.drew.same hW)
    have hlt := HB.out
    have hs : ∀ (X : World), Ch no w X → ∀ j v, Ch no w (X.setCell ⟨b + 1 + 1, j, none⟩ v) := fun X hX j v => hX.set (p := ⟨b + 1 + 1, j, none⟩) (.inr (by rw [hlt]; simp; omega)) v
    have hx := bSet (bSet (bSet (bSet (bSet (bSet (bSet (hW.blk hb2 (no_not _)) 0 (.int .i64 0)) 1 (.int .i64 (of + om))) 2 (.int .i64 many)) 3 (.int .i64 (af + am))) 4 (.int .i64 (many + m0))) 5 (.int .i64 (bf + bm))) 6 (.int .i64 (many + m1))
    have hy := hs _ (hs _ (hs _ (hs _ (hs _ (hs _ (hs _ hq 0 (.int .i64 0)) 1 (.int .i64 (of + om))) 2 (.int .i64 many)) 3 (.int .i64 (af + am))) 4 (.int .i64 (many + m0))) 5 (.int .i64 (bf + bm))) 6 (.int .i64 (many + m1))
    clear hc2 hf2 hs hq
    simp only [show b + 1 + 1 = b + 2 from rfl] at hy ⊢
    generalize (((((((W.setCell ⟨b + 2, 0, none⟩ (.int .i64 0)).setCell ⟨b + 2, 1, none⟩ (.int .i64 (of + om))).setCell ⟨b + 2, 2, none⟩ (.int .i64 many)).setCell ⟨b + 2, 3, none⟩ (.int .i64 (af + am))).setCell ⟨b + 2, 4, none⟩ (.int .i64 (many + m0))).setCell ⟨b + 2, 5, none⟩ (.int .i64 (bf + bm))).setCell ⟨b + 2, 6, none⟩ (.int .i64 (many + m1))) = Y at hx hy ⊢
    simp only [List.setIfInBounds_toArray, List.set_cons_zero, List.set_cons_succ] at hx
    have c0 := (bCell hx 0).trans rfl
    have c1 := (bCell hx 1).trans rfl
    have c2 := (bCell hx 2).trans rfl
    have c3 := (bCell hx 3).trans rfl
    have c4 := (bCell hx 4).trans rfl
    have c5 := (bCell hx 5).trans rfl
    have c6 := (bCell hx 6).trans rfl
    have HY := Lib.hid hy
    clear hx hy
    exact bodyPost_ret (v := .agg #[.int .i64 0, .int .i64 (of + om), .int .i64 many, .int .i64 (af + am), .int .i64 (many + m0), .int .i64 (bf + bm), .int .i64 (many + m1)]) (by simp [results, Tryd.results126, go_sem, c0, c1, c2, c3, c4, c5, c6]) rfl ⟨rfl, HY.out⟩

end Go.Proofs.YtekeiieefkgopaaDoor.Na
