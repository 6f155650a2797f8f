/- What a call may change in memory: the blocks of S, and nothing else that was there. -/
import Derived.WalkKit
import Derived.Deep.Draws
import Derived.Below
import Derived.Laws.Rows

namespace Go.Proofs.YtekeiieefkgopaaDoor.Aa
open Go.RowKit

/-- The builtins max and min of two whole numbers. -/
theorem mx2 (k k' : IntKind) (x y : Int) : Builtin.max2 (.int k x) (.int k' y) = pure (.int k (if x < y then y else x)) := by simp only [Builtin.max2, gt_iff_lt]
theorem mn2 (k k' : IntKind) (x y : Int) : Builtin.min2 (.int k x) (.int k' y) = pure (.int k (if y < x then y else x)) := by simp only [Builtin.min2]
theorem mxOp (ats : Array TypeId) (ty : TypeId) (a b : Value) : Builtin.max_ ats ty #[a, b] = (Builtin.max2 a b >>= fun s => pure s) := by simp only [Builtin.max_, List.foldlM_cons, List.foldlM_nil]
theorem mnOp (ats : Array TypeId) (ty : TypeId) (a b : Value) : Builtin.min_ ats ty #[a, b] = (Builtin.min2 a b >>= fun s => pure s) := by simp only [Builtin.min_, List.foldlM_cons, List.foldlM_nil]

/-- A block known whole: its cells, that it is not frozen, a store into it. -/
theorem bCell {w : World} {g : Nat} {t : TypeId} {cs : Array Value} (h : w.heap[g]? = some (.cells cs t (0, 0))) (i : Nat) : w.cell? ⟨g, i, none⟩ = cs[i]? := cell_of_row w g i cs t (0, 0) h
theorem bFree {w : World} {g : Nat} {t : TypeId} {cs : Array Value} (h : w.heap[g]? = some (.cells cs t (0, 0))) (i : Nat) : w.frozen? ⟨g, i, none⟩ = false := by simp [World.frozen?, h]
theorem bSet {w : World} {g : Nat} {t : TypeId} {cs : Array Value} (h : w.heap[g]? = some (.cells cs t (0, 0))) (i : Nat) (u : Value) : (w.setCell ⟨g, i, none⟩ u).heap[g]? = some (.cells (cs.setIfInBounds i u) t (0, 0)) := by
  simp [World.setCell, Array.getElem?_modify, h]
theorem bNew (w : World) (o : Obj) : (w.alloc o).heap[w.heap.size]? = some o := heap_alloc_new w o
theorem cellBelow {w w1 : World} (h : Below w.heap.size w w1) {a : Addr} {v : Value} (hc : w.cell? a = some v) : w1.cell? a = some v := (h.cell (World.block_lt_of_cell? w a hc)).trans hc

/-- From w to w' nothing that was there has turned, but for the blocks of S. -/
structure Ch (S : Nat → Prop) (w w' : World) : Prop where
  os : w'.os = w.os
  tape : w'.tape = w.tape
  output : w'.output = w.output
  size : w.heap.size ≤ w'.heap.size
  block : ∀ k, k < w.heap.size → ¬ S k → w'.heap[k]? = w.heap[k]?

/-- Nothing at all. -/
def no : Nat → Prop := fun _ => False
theorem no_not (k : Nat) : ¬ no k := fun h => h
/-- One block. -/
def one (g : Nat) : Nat → Prop := fun k => k = g

section
variable {S T U : Nat → Prop} {a b c w w' : World}
theorem Ch.refl (S : Nat → Prop) (w : World) : Ch S w w := ⟨rfl, rfl, rfl, Nat.le_refl _, fun _ _ _ => rfl⟩
theorem Ch.trans (h : Ch S a b) (k : Ch T b c) (hT : ∀ i, i < a.heap.size → T i → S i) : Ch S a c :=
  ⟨k.os.trans h.os, k.tape.trans h.tape, k.output.trans h.output, Nat.le_trans h.size k.size,
   fun i hi hn => (k.block i (Nat.lt_of_lt_of_le hi h.size) (fun ht => hn (hT i hi ht))).trans (h.block i hi hn)⟩
theorem Ch.same (h : Ch S a b) (k : Ch S b c) : Ch S a c := h.trans k (fun _ _ hs => hs)
theorem Ch.mono (h : Ch S w w') (hs : ∀ i, S i → T i) : Ch T w w' := ⟨h.os, h.tape, h.output, h.size, fun i hi hn => h.block i hi (fun hk => hn (hs i hk))⟩
theorem Ch.of_below (h : Below w.heap.size w w') : Ch S w w' := ⟨h.os, h.tape, h.output, h.size, fun i hi _ => h.block i hi⟩
theorem Ch.then_ (h : Ch S a b) (k : Ch no b c) : Ch S a c := h.trans k (fun _ _ hk => hk.elim)
theorem Ch.step (h : Ch S a w) (k : Below w.heap.size w w') : Ch S a w' := h.then_ (Ch.of_below k)
theorem Ch.below (h : Ch S w w') (hs : ∀ i, i < w.heap.size → ¬ S i) : Below w.heap.size w w' := ⟨h.os, h.tape, h.output, h.size, fun i hi => h.block i hi (hs i hi)⟩
theorem Ch.below_no (h : Ch no w w') : Below w.heap.size w w' := h.below (fun _ _ => no_not _)
theorem Ch.lift {B : Nat} (h : Below B a w) (k : Ch S w w') (hB : B ≤ w.heap.size) (hs : ∀ i, i < B → ¬ S i) : Below B a w' :=
  ⟨k.os.trans h.os, k.tape.trans h.tape, k.output.trans h.output, Nat.le_trans h.size k.size, fun i hi => (k.block i (Nat.lt_of_lt_of_le hi hB) (hs i hi)).trans (h.block i hi)⟩
theorem Ch.alloc (h : Ch S a w) (o : Obj) : Ch S a (w.alloc o) := h.step (Below.alloc (Below.refl _ _) (Nat.le_refl _) o)
theorem Ch.drew (h : Ch S a w) : Ch S a w.drew := ⟨h.os, h.tape, h.output, h.size, h.block⟩
theorem Ch.drewN (h : Ch S a w) (n : Nat) : Ch S a (w.drewN n) := ⟨h.os, h.tape, h.output, h.size, h.block⟩
theorem Ch.set (h : Ch S a w) {p : Addr} (hp : S p.block ∨ a.heap.size ≤ p.block) (u : Value) : Ch S a (w.setCell p u) :=
  h.trans (T := fun k => k = p.block) ⟨rfl, rfl, rfl, by simp [World.setCell], fun i _ hn => Below.heap_setCell w p u i hn⟩
    (fun i hi he => by subst he; rcases hp with hp | hp; exact hp; omega)
theorem Ch.set1 (w : World) (g j : Nat) (v : Value) : Ch (one g) w (w.setCell ⟨g, j, none⟩ v) := (Ch.refl (one g) w).set (p := ⟨g, j, none⟩) (.inl rfl) v
theorem Ch.blk {o : Obj} {g : Nat} (h : Ch S w w') (hb : w.heap[g]? = some o) (hg : ¬ S g) : w'.heap[g]? = some o :=
  (h.block g (Array.getElem?_eq_some_iff.1 hb).1 hg).trans hb
theorem blk_lt' {o : Obj} {g : Nat} (hb : w.heap[g]? = some o) : g < w.heap.size := (Array.getElem?_eq_some_iff.1 hb).1
end
/-- From here on the world under a name, with what is known of it. -/
theorem wp_world {P : Program} {c : Code} {Q : Exit → Act → World → Prop} {a : Act} {w : World} (I : World → Prop) (hI : I w) (h : ∀ W, I W → c.wp P Q a W) : c.wp P Q a w := h w hI
theorem wpList_world {P : Program} {ops : Array Oper} {l : List Oper} {Q : Exit → Act → World → Prop} {a : Act} {w : World} (I : World → Prop) (hI : I w) (h : ∀ W, I W → wpList P ops Q l a W) : wpList P ops Q l a w := h w hI

end Go.Proofs.YtekeiieefkgopaaDoor.Aa
