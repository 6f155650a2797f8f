/- A range over a function whose iterator keeps a state of its own in cells. -/
import Derived.RangeFuncNested
import Derived.RangeFuncBound
import Derived.RangeFuncCalls
import Derived.RangeFuncLeaves
import Derived.Test.YtekeiieefkgopaaDoorAa
namespace Go.Proofs.YtekeiieefkgopaaDoor.Mj
open Go Go.RowKit Go.Proofs.YtekeiieefkgopaaDoor.Aa

variable {F : Fence} {n : Nat} {P : Program}

/-- An iterator hands out just these, one by one, to whoever never stops it: only its own state T turns by it; what a round turns (U) it does not need. -/
def Iter {α : Type} (F : Fence) (n : Nat) (P : Program) (g : Nat) (lb : Array Value) (encs : α → Array Value) (T U : Nat → Prop) (xs : List α) (w : World) : Prop :=
  ∀ (l : Nat) (J : List α → World → Prop) (W : World), Ch no w W → (∀ pre A B, J pre A → Ch T A B → J pre B) →
    (∀ pre x W1, J pre W1 → (∃ r, xs = pre ++ x :: r) → YieldAt F (n - 1) P l (encs x) W1 fun e W' => e = .returned (.bool true) ∧ J (pre ++ [x]) W' ∧ Ch U W1 W') →
    J [] W →
    CallsIn F n P g (#[.func (.yield l) #[] #[]] ++ lb) W fun e W' => (∃ v, e = .returned v) ∧ J xs W'

theorem ch_putObj (W : World) (l : Nat) (o : Obj) : Ch (one l) W (W.putObj l o) :=
  ⟨rfl, rfl, rfl, by simp, fun i hi hn => World.putObj_heap_other hn⟩

/-- How a round ends. -/
def roundEnd {α : Type} (V : Nat → Prop) (I : List α → World → Prop) (xs : List α) (W : World) : Exit → Act → World → Prop
  | .normal, _, W' => Ch V W W' ∧ I xs W'
  | _, _, _ => False

theorem wpIn_range {α : Type} {g : Operand} {ps : Array Tmp} {assign body : Code} {Q : Exit → Act → World → Prop} {a : Act} {w : World}
    (hro : F.round = none) (h1 : 1 ≤ n) {gf : Nat} {lb : Array Value} (hg : a.eval g = .func (.func gf) #[] lb) (hFg : F.fn gf) (eg : ∀ args w, (callFunc gf args).run P w = .ok (.enter gf args) w)
    {encs : α → Array Value} {T V : Nat → Prop} {xs : List α} (hseq : Iter F (n - 1) P gf lb encs T (fun k => V k ∨ k = w.heap.size ∨ k = w.heap.size + 1) xs w)
    (hT : ∀ k, T k → k < w.heap.size) (hV : ∀ k, V k → k < w.heap.size ∨ w.heap.size + 2 ≤ k) (hps : ∀ x, (encs x).size = ps.size)
    (I : List α → World → Prop) (hI : ∀ pre A B, I pre A → Ch (fun k => T k ∨ k = w.heap.size ∨ k = w.heap.size + 1) A B → I pre B) (h0 : I [] w)
    (Ax : α → Act → World → Prop) (hAx : ∀ x a' A B, Ax x a' A → Ch (one (w.heap.size + 1)) A B → Ax x a' B)
    (hassign : ∀ (l : Nat) (pre : List α) (x : α) (W : World) (K : Act → World → Prop), w.heap.size + 2 ≤ W.heap.size → I pre W → (∀ a' W', Ch V W W' → I pre W' → Ax x a' W' → K a' W') →
      assign.wpIn (F.inRound l) (n - 1 - 1) P (Exit.then K (fun _ _ _ => False)) { tmps := (ps.zip (encs x)).foldl (fun t (p, v) => t.setIfInBounds p v) a.tmps, defers := [] } W)
    (hbody : ∀ (l : Nat) (pre : List α) (x : α) (a' : Act) (W : World), w.heap.size + 2 ≤ W.heap.size → I pre W → Ax x a' W → (∃ r, xs = pre ++ x :: r) → body.wpIn (F.inRound l) (n - 1 - 1) P (roundEnd V I (pre ++ [x]) W) a' W)
    (hdone : ∀ (W : World), I xs W → w.heap.size + 2 ≤ W.heap.size → W.heap[w.heap.size]? = some (.deferred (some [])) → Q .normal { a with defers := { target := .collected w.heap.size, args := #[] } :: a.defers } W) :
    (Code.rangeFunc g ps assign body).wpIn F n P Q a w := by
  refine wpIn_rangeFunc ?_
  intro fn hfn
  rw [hro]
  obtain ⟨rec, hrec⟩ : ∃ rec : LoopState → Option Code → Loop, rec = fun st pe => { state := st, pending := pe, fn, tmps := a.tmps, params := ps, assign, body, defers := w.heap.size } := ⟨_, rfl⟩
  obtain ⟨W1, hW1⟩ : ∃ W1, (w.alloc (.deferred (some []))).alloc (.loop (rec .ready none)) = W1 := ⟨_, rfl⟩
  have hL1 : W1.heap[w.heap.size + 1]? = some (.loop (rec .ready none)) := by
    rw [← hW1]; have := World.alloc_heap_new (w.alloc (.deferred (some []))) (.loop (rec .ready none)); rwa [World.size_alloc] at this
  have hK1 : W1.heap[w.heap.size]? = some (.deferred (some [])) := by
    rw [← hW1]; exact (Below.heap_alloc _ _ _ (by simp)).trans (World.alloc_heap_new w _)
  have hc1 : ∀ S : Nat → Prop, Ch S w W1 := fun S => by rw [← hW1]; exact ((Ch.refl S w).alloc _).alloc _
  have hI1 : I [] W1 := hI _ _ _ h0 (hc1 _)
  refine ⟨w.heap.size + 1, [{ target := .collected w.heap.size, args := #[] }], W1, { target := .fn (.func gf) lb, args := #[.func (.yield (w.heap.size + 1)) #[] #[]] }, W1, gf,
    #[.func (.yield (w.heap.size + 1)) #[] #[]] ++ lb, W1, ?_, ?_, ?_, ?_, fun _ => h1, ?_⟩
  · rw [← hW1, hrec]; exact run_enterLoop_outer _ _ _ _ _
  · simp only [resolve, hg]
    simp [go_sem]
  · intro f' hf'; simp [Target.leads] at hf'; subst hf'; exact hFg
  · simp [invoke, go_sem, eg]
  · have hput : ∀ (pre : List α) (A : World) (o : Obj), I pre A → I pre (A.putObj (w.heap.size + 1) o) := fun pre A o h => hI pre _ _ h ((ch_putObj A _ o).mono (fun i hi => .inr (.inr hi)))
    have hnT1 : ¬ T (w.heap.size + 1) := fun h => by have := hT _ h; omega
    have hnT0 : ¬ T w.heap.size := fun h => by have := hT _ h; omega
    have hnV1 : ¬ V (w.heap.size + 1) := fun h => by have := hV _ h; omega
    have hnV0 : ¬ V w.heap.size := fun h => by have := hV _ h; omega
    refine (hseq (w.heap.size + 1)
      (fun pre W => I pre W ∧ W.heap[w.heap.size + 1]? = some (.loop (rec .ready none)) ∧ W.heap[w.heap.size]? = some (.deferred (some [])))
      W1 (hc1 _)
      (fun pre A B hs hc => ⟨hI _ _ _ hs.1 (hc.mono (fun i hi => .inl hi)), hc.blk hs.2.1 hnT1, hc.blk hs.2.2 hnT0⟩)
      ?_ ⟨hI1, hL1, hK1⟩).mono ?_
    · rintro pre x W ⟨hi, hl, hk⟩ hpre
      have hlt : w.heap.size + 1 < W.heap.size := (Array.getElem?_eq_some_iff.1 hl).1
      have hy := run_yield (P := P) (args := encs x) hl (by rw [hrec]; exact hps x)
      rw [hrec] at hy
      refine ⟨fn, _, assign, body, hy, roundIn_of_wpIn hfn (hassign _ pre x W _ (by omega) hi ?_)⟩
      clear hy
      intro a' Wa hca hia hax
      have hl1 := hca.blk hl hnV1
      have hk1 := hca.blk hk hnV0
      have hlt1 : w.heap.size + 1 < Wa.heap.size := (Array.getElem?_eq_some_iff.1 hl1).1
      refine ⟨_, run_beginRound hl1 (by rw [hrec]), ?_⟩
      have hl2 : (Wa.putObj (w.heap.size + 1) (.loop { rec .ready none with state := .busy })).heap[w.heap.size + 1]? = some (.loop { rec .ready none with state := .busy }) := World.putObj_heap_same hlt1
      have hk2 : (Wa.putObj (w.heap.size + 1) (.loop { rec .ready none with state := .busy })).heap[w.heap.size]? = some (.deferred (some [])) := (World.putObj_heap_other (by omega)).trans hk1
      refine wpIn_mono (hbody _ pre x a' _ (by simp; omega) (hput _ _ _ hia) (hAx _ _ _ _ hax (ch_putObj _ _ _)) hpre) ?_
      rintro e a3 W3 hp
      cases e with
      | normal =>
        obtain ⟨hc3, hi3⟩ := hp
        have hl3 := hc3.blk hl2 hnV1
        have hk3 := hc3.blk hk2 hnV0
        have hr := run_endRound (P := P) none hl3
        refine ⟨_, _, hr, rfl, ⟨hput _ _ _ hi3, ?_, (World.putObj_heap_other (by omega)).trans hk3⟩, ?_⟩
        · rw [World.putObj_heap_same (Array.getElem?_eq_some_iff.1 hl3).1, hrec]
          rfl
        · have q1 : Ch (fun k => V k ∨ k = w.heap.size ∨ k = w.heap.size + 1) W Wa := hca.mono (fun i hi => .inl hi)
          have q2 := (ch_putObj Wa (w.heap.size + 1) (.loop { rec .ready none with state := .busy })).mono (T := fun k => V k ∨ k = w.heap.size ∨ k = w.heap.size + 1) (fun i hi => .inr (.inr hi))
          have q3 := hc3.mono (T := fun k => V k ∨ k = w.heap.size ∨ k = w.heap.size + 1) (fun i hi => .inl hi)
          exact ((q1.same q2).same q3).same ((ch_putObj W3 _ _).mono (fun i hi => .inr (.inr hi)))
      | ret => exact hp.elim
      | exit id => exact hp.elim
      | goto t => exact hp.elim
      | panic ch => exact hp.elim
      | outgrown => exact hp.elim
    · rintro e W2 ⟨⟨v, rfl⟩, hi, hl, hk⟩
      exact ⟨none, _, by have := run_endLoop (P := P) hl (by rw [hrec]; simp); rw [hrec] at this; exact this, hdone _ (hput _ _ _ hi) (by have := (Array.getElem?_eq_some_iff.1 hl).1; simp; omega) ((World.putObj_heap_other (by omega)).trans hk)⟩

end Go.Proofs.YtekeiieefkgopaaDoor.Mj
