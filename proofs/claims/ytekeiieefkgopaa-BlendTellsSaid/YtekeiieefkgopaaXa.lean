/- Edits turn the one list into the other one: plain lists. Regions, by lists: what each one is, and that they lie one behind the other. Regions, by lists: they fit, and each is what its kind says. Regions, by lists: all of them. How long texts are that were put together; merge.Text at texts of up to a thousand bytes. -/
import Derived.Test.YtekeiieefkgopaaNc
import Derived.Test.YtekeiieefkgopaaNh
import Derived.Test.YtekeiieefkgopaaNq
namespace Go.Proofs.Ytekeiieefkgopaa.Pa
open Go.Proofs.Ytekeiieefkgopaa.Me Go.Proofs.Ytekeiieefkgopaa.Mf Go.Proofs.Ytekeiieefkgopaa.Mg Go.Proofs.Ytekeiieefkgopaa.Mi Go.Proofs.Ytekeiieefkgopaa.Nc
set_option linter.unusedVariables false
set_option linter.unusedSimpArgs false

abbrev Ls := List ByteArray
/-- Edits that turn lines into others, from a place on. -/
def Scr : Nat → Ls → Ls → List EditP → Prop
  | _, xs, ys, [] => xs = ys
  | p, xs, ys, e :: es => p ≤ e.at_ ∧ e.at_ - p + e.del ≤ xs.length ∧ ∃ ys', ys = xs.take (e.at_ - p) ++ (e.ins ++ ys') ∧ Scr (e.at_ + e.del) (xs.drop (e.at_ - p + e.del)) ys' es
/-- They stand apart, and each does something. -/
def Apart (es : List EditP) : Prop := es.Pairwise (fun e f => e.at_ + e.del < f.at_)
def Real (es : List EditP) : Prop := ∀ e ∈ es, 0 < e.del + e.ins.length

theorem Scr.tail (t : Ls) : ∀ (es : List EditP) (p : Nat) (x y : Ls), Scr p x y es → Scr p (x ++ t) (y ++ t) es
  | [], p, x, y, h => by simp only [Scr] at h ⊢; rw [h]
  | e :: es, p, x, y, ⟨h1, h2, ys', h3, h4⟩ => by
    refine ⟨h1, by simp; omega, ys' ++ t, ?_, ?_⟩
    · rw [h3, List.take_append_of_le_length (by omega)]; simp
    · rw [List.drop_append_of_le_length h2]
      exact Scr.tail t es _ _ _ h4
theorem Scr.snoc (e : EditP) (dl : Ls) (hd : dl.length = e.del) : ∀ (es : List EditP) (p : Nat) (x y : Ls), Scr p x y es → e.at_ = p + x.length → Scr p (x ++ dl) (y ++ e.ins) (es ++ [e])
  | [], p, x, y, h, he => by
    simp only [Scr] at h
    subst h
    refine ⟨by omega, by simp; omega, [], ?_, ?_⟩
    · rw [show e.at_ - p = x.length from by omega, List.take_left']
      · simp
      · rfl
    · simp only [Scr]
      rw [List.drop_eq_nil_of_le (by simp; omega)]
  | f :: es, p, x, y, ⟨h1, h2, ys', h3, h4⟩, he => by
    refine ⟨h1, by simp; omega, ys' ++ e.ins, ?_, ?_⟩
    · rw [h3, List.take_append_of_le_length (by omega)]; simp
    · rw [List.drop_append_of_le_length h2]
      exact Scr.snoc e dl hd es _ _ _ h4 (by rw [List.length_drop]; omega)
theorem Scr.front (fr : Ls) : ∀ (es : List EditP) (p : Nat) (x y : Ls), Scr (p + fr.length) x y es → Scr p (fr ++ x) (fr ++ y) es
  | [], p, x, y, h => by simp only [Scr] at h ⊢; rw [h]
  | e :: es, p, x, y, ⟨h1, h2, ys', h3, h4⟩ => by
    have e1 : e.at_ - p = fr.length + (e.at_ - (p + fr.length)) := by omega
    refine ⟨by omega, by simp; omega, ys', ?_, ?_⟩
    · rw [h3, e1, List.take_length_add_append]; simp
    · rw [e1, Nat.add_assoc, List.drop_length_add_append]
      exact h4

/-- A way leads from the one list to the other one. -/
def Path : List Op3 → Ls → Ls → Prop
  | [], x, y => x = [] ∧ y = []
  | .keep :: r, x, y => ∃ a x' y', x = a :: x' ∧ y = a :: y' ∧ Path r x' y'
  | .del :: r, x, y => ∃ a x', x = a :: x' ∧ Path r x' y
  | .ins s :: r, x, y => ∃ y', y = s :: y' ∧ Path r x y'
theorem way_path (x y : Ls) : Path (way x y) x y := by
  induction x, y using way.induct with
  | case1 => simp [way, Path]
  | case2 a x ih => rw [way]; exact ⟨a, x, rfl, ih⟩
  | case3 b y ih => rw [way]; exact ⟨y, rfl, ih⟩
  | case4 x b y ih => rw [way, if_pos rfl]; exact ⟨b, x, y, rfl, rfl, ih⟩
  | case5 a x b y h h2 ih => rw [way, if_neg h, if_pos h2]; exact ⟨a, x, rfl, ih⟩
  | case6 a x b y h h2 ih => rw [way, if_neg h, if_neg h2]; exact ⟨y, rfl, ih⟩

/-- What is known while edits are made: the last one may be open. -/
def Open (p : Nat) (X Y : Ls) (out : List EditP) : Prop :=
  ∃ out0 e X0 Y0 dl, out = out0 ++ [e] ∧ X = X0 ++ dl ∧ Y = Y0 ++ e.ins ∧ Scr p X0 Y0 out0 ∧ e.at_ = p + X0.length ∧ dl.length = e.del
def StI (p : Nat) (X Y : Ls) (o : Bool) (out : List EditP) : Prop := if o then Open p X Y out else Scr p X Y out
theorem Open.scr {p : Nat} {X Y : Ls} {out : List EditP} (h : Open p X Y out) : Scr p X Y out := by
  obtain ⟨out0, e, X0, Y0, dl, rfl, rfl, rfl, h1, h2, h3⟩ := h
  exact Scr.snoc e dl h3 out0 p X0 Y0 h1 h2
theorem StI.scr {p : Nat} {X Y : Ls} {o : Bool} {out : List EditP} (h : StI p X Y o out) : Scr p X Y out := by
  unfold StI at h
  cases o
  · simpa using h
  · exact Open.scr (by simpa using h)
theorem StI.open_ {p i : Nat} {X Y : Ls} {o : Bool} {out : List EditP} (h : StI p X Y o out) (hi : i = p + X.length) : Open p X Y (if o then out else out ++ [⟨i, 0, []⟩]) := by
  unfold StI at h
  cases o
  · exact ⟨out, ⟨i, 0, []⟩, X, Y, [], by simp, by simp, by simp, by simpa using h, by simpa using hi, rfl⟩
  · simpa using h
theorem last_mod {α : Type} (l : List α) (e : α) (f : α → α) : (l ++ [e]).modify ((l ++ [e]).length - 1) f = l ++ [f e] := by
  rw [List.length_append, List.length_singleton, Nat.add_sub_cancel]
  induction l with
  | nil => rfl
  | cons a l ih => simp only [List.cons_append, List.length_cons, List.modify_succ_cons, ih]
theorem Open.del {p : Nat} {X Y : Ls} {out : List EditP} (h : Open p X Y out) (a : ByteArray) : Open p (X ++ [a]) Y (lastDel out) := by
  obtain ⟨out0, e, X0, Y0, dl, rfl, rfl, rfl, h1, h2, h3⟩ := h
  refine ⟨out0, { e with del := e.del + 1 }, X0, Y0, dl ++ [a], ?_, by simp, rfl, h1, h2, by simp [h3]⟩
  unfold lastDel; rw [last_mod]
theorem Open.ins {p : Nat} {X Y : Ls} {out : List EditP} (h : Open p X Y out) (s : ByteArray) : Open p X (Y ++ [s]) (lastIns out s) := by
  obtain ⟨out0, e, X0, Y0, dl, rfl, rfl, rfl, h1, h2, h3⟩ := h
  refine ⟨out0, { e with ins := e.ins ++ [s] }, X0, Y0, dl, ?_, rfl, by simp, h1, h2, h3⟩
  unfold lastIns; rw [last_mod]
theorem grp_scr : ∀ (ops : List Op3) (x y : Ls) (p i : Nat) (o : Bool) (out : List EditP) (X Y : Ls), Path ops x y → i = p + X.length → StI p X Y o out → Scr p (X ++ x) (Y ++ y) (grp ops i o out)
  | [], x, y, p, i, o, out, X, Y, hp, hi, h => by
    obtain ⟨rfl, rfl⟩ := hp
    simpa [grp] using h.scr
  | .keep :: r, x, y, p, i, o, out, X, Y, hp0, hi, h => by
    obtain ⟨a, x', y', rfl, rfl, hp⟩ := hp0
    have := grp_scr r x' y' p (i + 1) false out (X ++ [a]) (Y ++ [a]) hp (by simp; omega) (by simpa [StI] using Scr.tail [a] out p X Y h.scr)
    simpa [grp] using this
  | .del :: r, x, y, p, i, o, out, X, Y, hp0, hi, h => by
    obtain ⟨a, x', rfl, hp⟩ := hp0
    have := grp_scr r x' y p (i + 1) true _ (X ++ [a]) Y hp (by simp; omega) (by simpa [StI] using (h.open_ hi).del a)
    simpa [grp] using this
  | .ins s :: r, x, y, p, i, o, out, X, Y, hp0, hi, h => by
    obtain ⟨y', rfl, hp⟩ := hp0
    have := grp_scr r x y' p i true _ X (Y ++ [s]) hp hi (by simpa [StI] using (h.open_ hi).ins s)
    simpa [grp] using this

/-- .. they stand apart, and do something. -/
def OpA (i : Nat) (out : List EditP) : Prop := ∃ out0 e, out = out0 ++ [e] ∧ Apart out0 ∧ Real out0 ∧ (∀ f ∈ out0, f.at_ + f.del < e.at_) ∧ e.at_ + e.del = i
def StA (i : Nat) (o : Bool) (out : List EditP) : Prop := if o then OpA i out ∧ Real out else Apart out ∧ Real out ∧ ∀ e ∈ out, e.at_ + e.del < i
theorem StA.fin {i : Nat} {o : Bool} {out : List EditP} (h : StA i o out) : Apart out ∧ Real out ∧ ∀ e ∈ out, e.at_ + e.del < i + 1 := by
  unfold StA at h
  cases o
  · simp at h; exact ⟨h.1, h.2.1, fun e he => by have := h.2.2 e he; omega⟩
  · simp at h
    obtain ⟨⟨out0, e, rfl, h1, h2, h3, h4⟩, hr⟩ := h
    refine ⟨?_, hr, ?_⟩
    · unfold Apart at *
      rw [List.pairwise_append]
      exact ⟨h1, List.pairwise_singleton _ _, fun f hf g hg => by rw [List.mem_singleton.1 hg]; exact h3 f hf⟩
    · intro f hf
      rcases List.mem_append.1 hf with hf | hf
      · have := h3 f hf; omega
      · rw [List.mem_singleton.1 hf]; omega
theorem StA.open_ {i : Nat} {o : Bool} {out : List EditP} (h : StA i o out) : OpA i (if o then out else out ++ [⟨i, 0, []⟩]) := by
  unfold StA at h
  cases o
  · simp at h
    exact ⟨out, ⟨i, 0, []⟩, rfl, h.1, h.2.1, h.2.2, rfl⟩
  · simp at h; simpa using h.1
theorem OpA.del {i : Nat} {out : List EditP} (h : OpA i out) : StA (i + 1) true (lastDel out) := by
  obtain ⟨out0, e, rfl, h1, h2, h3, h4⟩ := h
  have e1 : lastDel (out0 ++ [e]) = out0 ++ [{ e with del := e.del + 1 }] := by unfold lastDel; rw [last_mod]
  rw [e1]
  refine (if_pos rfl).mpr ⟨⟨out0, _, rfl, h1, h2, h3, by simp only []; omega⟩, ?_⟩
  intro f hf
  rcases List.mem_append.1 hf with hf | hf
  · exact h2 f hf
  · rw [List.mem_singleton.1 hf]; simp only []; omega
theorem OpA.ins {i : Nat} {out : List EditP} (h : OpA i out) (s : ByteArray) : StA i true (lastIns out s) := by
  obtain ⟨out0, e, rfl, h1, h2, h3, h4⟩ := h
  have e1 : lastIns (out0 ++ [e]) s = out0 ++ [{ e with ins := e.ins ++ [s] }] := by unfold lastIns; rw [last_mod]
  rw [e1]
  refine (if_pos rfl).mpr ⟨⟨out0, _, rfl, h1, h2, h3, h4⟩, ?_⟩
  intro f hf
  rcases List.mem_append.1 hf with hf | hf
  · exact h2 f hf
  · rw [List.mem_singleton.1 hf]; simp only [List.length_append, List.length_singleton]; omega
theorem grp_apart : ∀ (ops : List Op3) (i : Nat) (o : Bool) (out : List EditP), StA i o out → Apart (grp ops i o out) ∧ Real (grp ops i o out)
  | [], i, o, out, h => ⟨h.fin.1, h.fin.2.1⟩
  | .keep :: r, i, o, out, h => by
    simp only [grp]
    exact grp_apart r (i + 1) false out ((if_neg (by simp)).mpr ⟨h.fin.1, h.fin.2.1, h.fin.2.2⟩)
  | .del :: r, i, o, out, h => by
    simp only [grp]
    exact grp_apart r (i + 1) true _ h.open_.del
  | .ins s :: r, i, o, out, h => by
    simp only [grp]
    exact grp_apart r i true _ (h.open_.ins s)

theorem take_alike {xs ys : Ls} {n : Nat} (h : ∀ i, i < n → xs[i]? = ys[i]?) : xs.take n = ys.take n := by
  apply List.ext_getElem?
  intro i
  rw [List.getElem?_take, List.getElem?_take]
  split
  · exact h i (by assumption)
  · rfl
theorem front_alike (a b : Ls) : a.take (frontN a b) = b.take (frontN a b) :=
  take_alike fun i hi => by
    have := (firstNot_spec (sameAt a b) (min a.length b.length)).2.1 i hi
    simpa [sameAt] using this
theorem end_alike (a b : Ls) : a.drop (a.length - endN a b) = b.drop (b.length - endN a b) := by
  have h := (firstNot_spec (sameEnd a b) (min a.length b.length)).2.1
  have hle := endN_le a b
  apply List.ext_getElem?
  intro j
  rw [List.getElem?_drop, List.getElem?_drop]
  by_cases hj : j < endN a b
  · have := h (endN a b - 1 - j) (by unfold endN at *; omega)
    simp only [sameEnd, decide_eq_true_eq] at this
    rw [show a.length - 1 - (endN a b - 1 - j) = a.length - endN a b + j from by omega, show b.length - 1 - (endN a b - 1 - j) = b.length - endN a b + j from by omega] at this
    exact this
  · rw [List.getElem?_eq_none (by omega), List.getElem?_eq_none (by omega)]
theorem mid_scr (f : Nat) (x y : Ls) : Scr f x y (midDiff f x y) ∧ Apart (midDiff f x y) ∧ Real (midDiff f x y) := by
  unfold midDiff
  split
  · rename_i h
    obtain ⟨rfl, rfl⟩ := h
    exact ⟨rfl, List.Pairwise.nil, fun e he => by simp at he⟩
  · rename_i h
    split
    · refine ⟨⟨Nat.le_refl _, by simp, [], by simp, by simp [Scr]⟩, List.pairwise_singleton _ _, fun e he => ?_⟩
      rw [List.mem_singleton.1 he]
      simp only []
      rcases Nat.eq_zero_or_pos x.length with h0 | h0
      · rcases Nat.eq_zero_or_pos y.length with h1 | h1
        · exact absurd ⟨List.length_eq_zero_iff.1 h0, List.length_eq_zero_iff.1 h1⟩ h
        · omega
      · omega
    · refine ⟨?_, grp_apart _ _ _ _ ((if_neg (by simp)).mpr ⟨List.Pairwise.nil, fun e he => by simp at he, fun e he => by simp at he⟩)⟩
      have := grp_scr (way x y) x y f f false [] [] [] (way_path x y) (by simp) (by simp [StI, Scr])
      simpa using this
/-- The edits turn the one list into the other one; they stand apart, and each does something. -/
theorem diff_scr (a b : Ls) : Scr 0 a b (diffOf a b) ∧ Apart (diffOf a b) ∧ Real (diffOf a b) := by
  unfold diffOf
  obtain ⟨f, hf⟩ : ∃ f, frontN a b = f := ⟨_, rfl⟩
  have hal := front_alike a b
  have hle := frontN_le a b
  rw [hf] at hal hle ⊢
  obtain ⟨x0, hx0⟩ : ∃ x, a.drop f = x := ⟨_, rfl⟩
  obtain ⟨y0, hy0⟩ : ∃ y, b.drop f = y := ⟨_, rfl⟩
  have hend := end_alike x0 y0
  rw [hx0, hy0]
  obtain ⟨k, hk⟩ : ∃ k, endN x0 y0 = k := ⟨_, rfl⟩
  rw [hk] at hend ⊢
  obtain ⟨h1, h2⟩ := mid_scr f (x0.take (x0.length - k)) (y0.take (y0.length - k))
  refine ⟨?_, h2⟩
  have h3 := Scr.tail (x0.drop (x0.length - k)) _ _ _ _ h1
  rw [List.take_append_drop] at h3
  rw [hend, List.take_append_drop] at h3
  have h4 := Scr.front (a.take f) _ 0 x0 y0 (by rw [List.length_take, Nat.min_eq_left hle.1, Nat.zero_add]; exact h3)
  rw [← hx0, List.take_append_drop] at h4
  rw [hal, ← hy0, List.take_append_drop] at h4
  rw [hx0] at h4
  rw [← hy0]
  exact h4

end Go.Proofs.Ytekeiieefkgopaa.Pa
namespace Go.Proofs.Ytekeiieefkgopaa.Pb
open Go.Proofs.Ytekeiieefkgopaa.Mc Go.Proofs.Ytekeiieefkgopaa.Mg Go.Proofs.Ytekeiieefkgopaa.Mi Go.Proofs.Ytekeiieefkgopaa.Na Go.Proofs.Ytekeiieefkgopaa.Nb Go.Proofs.Ytekeiieefkgopaa.Nc Go.Proofs.Ytekeiieefkgopaa.Nf Go.Proofs.Ytekeiieefkgopaa.Nh Go.Proofs.Ytekeiieefkgopaa.Pa
set_option linter.unusedVariables false
set_option linter.unusedSimpArgs false

/-- No edit begins ahead of a place. -/
def Far (q : Nat) (es : List EditP) : Prop := ∀ e ∈ es.head?, q ≤ e.at_
theorem Far.cons {q : Nat} {e : EditP} {es : List EditP} : Far q (e :: es) ↔ q ≤ e.at_ := by simp [Far]
theorem Far.mono {q q' : Nat} {es : List EditP} (h : Far q es) (hq : q' ≤ q) : Far q' es := fun e he => Nat.le_trans hq (h e he)
theorem Scr.far {p : Nat} {x y : Ls} {es : List EditP} (h : Scr p x y es) : Far p es := by
  cases es with
  | nil => intro e he; simp at he
  | cons e es => rw [Far.cons]; exact h.1
theorem Scr.adv {p k : Nat} {x y : Ls} {es : List EditP} (h : Scr p x y es) (hk : k ≤ x.length) (hf : Far (p + k) es) :
    x.take k = y.take k ∧ k ≤ y.length ∧ Scr (p + k) (x.drop k) (y.drop k) es := by
  cases es with
  | nil => simp only [Scr] at h ⊢; subst h; exact ⟨rfl, hk, rfl⟩
  | cons e es =>
    rw [Far.cons] at hf
    obtain ⟨h1, h2, ys', h3, h4⟩ := h
    have hl : k ≤ (x.take (e.at_ - p)).length := by rw [List.length_take]; omega
    refine ⟨?_, by rw [h3, List.length_append]; omega, by omega, by rw [List.length_drop]; omega, ys', ?_, ?_⟩
    · rw [h3, List.take_append_of_le_length hl, List.take_take, Nat.min_eq_left (by omega)]
    · rw [h3, List.drop_append_of_le_length hl, List.drop_take, show e.at_ - p - k = e.at_ - (p + k) from by omega]
    · rw [List.drop_drop, show k + (e.at_ - (p + k) + e.del) = e.at_ - p + e.del from by omega]
      exact h4

/-- One side of a cluster in the making. -/
def Sd (p : Nat) (X Y : Ls) (k : Nat) (m : Int) (es : List EditP) : Prop := k ≤ X.length ∧ 0 ≤ (k : Int) + m ∧ (k : Int) + m ≤ Y.length ∧ Scr (p + k) (X.drop k) (Y.drop ((k : Int) + m).toNat) es
theorem Sd.start {p : Nat} {X Y : Ls} {es : List EditP} (h : Scr p X Y es) : Sd p X Y 0 0 es := ⟨by omega, by omega, by simp, by simpa using h⟩
theorem Sd.take {p k : Nat} {X Y : Ls} {m : Int} {e : EditP} {es : List EditP} (h : Sd p X Y k m (e :: es)) :
    p + k ≤ e.at_ ∧ p ≤ e.at_ + e.del ∧ e.at_ + e.del ≤ p + X.length ∧ Sd p X Y (e.at_ + e.del - p) (m + ((e.ins.length : Int) - e.del)) es := by
  obtain ⟨h1, h2, h3, g1, g2, ys', g3, g4⟩ := h
  rw [List.length_drop] at g2
  have hl := congrArg List.length g3
  rw [List.length_drop, List.length_append, List.length_append, List.length_take, List.length_drop] at hl
  refine ⟨g1, by omega, by omega, by omega, by omega, by omega, ?_⟩
  rw [show p + (e.at_ + e.del - p) = e.at_ + e.del from by omega]
  have e1 : X.drop (e.at_ + e.del - p) = (X.drop k).drop (e.at_ - (p + k) + e.del) := by rw [List.drop_drop]; congr 1; omega
  have e2 : Y.drop (((e.at_ + e.del - p : Nat) : Int) + (m + ((e.ins.length : Int) - e.del))).toNat = ys' := by
    have : (((e.at_ + e.del - p : Nat) : Int) + (m + ((e.ins.length : Int) - e.del))).toNat = ((k : Int) + m).toNat + ((e.at_ - (p + k)) + e.ins.length) := by omega
    rw [this, ← List.drop_drop, g3, List.drop_append, List.drop_eq_nil_of_le (by rw [List.length_take]; omega), List.nil_append, List.length_take, List.length_drop]
    rw [show e.at_ - (p + k) + e.ins.length - min (e.at_ - (p + k)) (X.length - k) = e.ins.length from by omega, List.drop_left' rfl]
  rw [e1, e2]
  exact g4
theorem Sd.adv {p k k' : Nat} {X Y : Ls} {m : Int} {es : List EditP} (h : Sd p X Y k m es) (h1 : k ≤ k') (h2 : k' ≤ X.length) (hf : Far (p + k') es) : Sd p X Y k' m es := by
  obtain ⟨g1, g2, g3, g4⟩ := h
  obtain ⟨a1, a2, a3⟩ := Scr.adv (k := k' - k) g4 (by rw [List.length_drop]; omega) (by rw [show p + k + (k' - k) = p + k' from by omega]; exact hf)
  rw [List.length_drop] at a2
  refine ⟨h2, by omega, by omega, ?_⟩
  rw [List.drop_drop, List.drop_drop, show p + k + (k' - k) = p + k' from by omega, show k + (k' - k) = k' from by omega, show ((k : Int) + m).toNat + (k' - k) = ((k' : Int) + m).toNat from by omega] at a3
  exact a3

/-- A cluster in the making. -/
structure Mk (p : Nat) (X YA YB : Ls) (L R : List EditP) (c : Clu) (l r : List EditP) : Prop where
  fr : c.from_ = p
  to1 : p ≤ c.to_
  to2 : c.to_ ≤ p + X.length
  ea : ∃ k, p + k ≤ c.to_ ∧ Sd p X YA k c.m0 l
  eb : ∃ k, p + k ≤ c.to_ ∧ Sd p X YB k c.m1 r
  na : c.h0 = false → l = L ∧ c.m0 = 0
  nb : c.h1 = false → r = R ∧ c.m1 = 0
theorem Mk.take0 {p : Nat} {X YA YB : Ls} {L R : List EditP} {c : Clu} {e : EditP} {l r : List EditP} (h : Mk p X YA YB L R c (e :: l) r) : Mk p X YA YB L R (Clu.add0 c e) l r := by
  obtain ⟨k, hk, hs⟩ := h.ea
  obtain ⟨kb, hkb, hsb⟩ := h.eb
  obtain ⟨s1, s2, s3, s4⟩ := hs.take
  have := h.to1; have := h.to2
  refine ⟨h.fr, ?_, ?_, ⟨e.at_ + e.del - p, ?_, s4⟩, ⟨kb, ?_, hsb⟩, fun hf => ?_, h.nb⟩
  · simp only [Clu.add0, Clu.take0]; omega
  · simp only [Clu.add0, Clu.take0]; omega
  · simp only [Clu.add0, Clu.take0]; omega
  · simp only [Clu.add0, Clu.take0]; omega
  · simp [Clu.add0, Clu.take0] at hf
theorem Mk.take1 {p : Nat} {X YA YB : Ls} {L R : List EditP} {c : Clu} {e : EditP} {l r : List EditP} (h : Mk p X YA YB L R c l (e :: r)) : Mk p X YA YB L R (Clu.add1 c e) l r := by
  obtain ⟨k, hk, hs⟩ := h.ea
  obtain ⟨kb, hkb, hsb⟩ := h.eb
  obtain ⟨s1, s2, s3, s4⟩ := hsb.take
  have := h.to1; have := h.to2
  refine ⟨h.fr, ?_, ?_, ⟨k, ?_, hs⟩, ⟨e.at_ + e.del - p, ?_, s4⟩, h.na, fun hf => ?_⟩
  · simp only [Clu.add1, Clu.take1]; omega
  · simp only [Clu.add1, Clu.take1]; omega
  · simp only [Clu.add1, Clu.take1]; omega
  · simp only [Clu.add1, Clu.take1]; omega
  · simp [Clu.add1, Clu.take1] at hf
theorem meets_mk {p : Nat} {X YA YB : Ls} {L R : List EditP} (c : Clu) (l r : List EditP) (h : Mk p X YA YB L R c l r) :
    Mk p X YA YB L R (meets c l r).1 (meets c l r).2.1 (meets c l r).2.2 ∧ Far ((meets c l r).1.to_ + 1) (meets c l r).2.1 ∧ Far ((meets c l r).1.to_ + 1) (meets c l r).2.2 := by
  induction c, l, r using meets.induct with
  | case1 c e l hc ih => rw [meets, if_pos hc]; exact ih h.take0
  | case2 c e l hc => rw [meets, if_neg hc]; exact ⟨h, by rw [Far.cons]; show c.to_ + 1 ≤ _; omega, fun e he => by simp at he⟩
  | case3 c e l f r hc ih => rw [meets, if_pos hc]; exact ih h.take0
  | case4 c e l f r hc h2 ih => rw [meets, if_neg hc, if_pos h2]; exact ih h.take1
  | case5 c e l f r hc h2 => rw [meets, if_neg hc, if_neg h2]; exact ⟨h, by rw [Far.cons]; show c.to_ + 1 ≤ _; omega, by rw [Far.cons]; show c.to_ + 1 ≤ _; omega⟩
  | case6 c f r hc ih => rw [meets, if_pos hc]; exact ih h.take1
  | case7 c f r hc => rw [meets, if_neg hc]; exact ⟨h, fun e he => by simp at he, by rw [Far.cons]; show c.to_ + 1 ≤ _; omega⟩
  | case8 c => rw [meets]; exact ⟨h, fun e he => by simp at he, fun e he => by simp at he⟩

/-- A cluster: what it is of either side's lines. -/
structure Done (p : Nat) (X YA YB : Ls) (c : Clu) (l r : List EditP) : Prop where
  fr : c.from_ = p
  to1 : p ≤ c.to_
  to2 : c.to_ ≤ p + X.length
  sa : Sd p X YA (c.to_ - p) c.m0 l
  sb : Sd p X YB (c.to_ - p) c.m1 r
  na : c.h0 = false → c.m0 = 0 ∧ X.take (c.to_ - p) = YA.take (c.to_ - p)
  nb : c.h1 = false → c.m1 = 0 ∧ X.take (c.to_ - p) = YB.take (c.to_ - p)
theorem done_of {p : Nat} {X YA YB : Ls} {l r : List EditP} (ha : Scr p X YA l) (hb : Scr p X YB r) :
    Done p X YA YB (meets ⟨p, p, 0, 0, false, false⟩ l r).1 (meets ⟨p, p, 0, 0, false, false⟩ l r).2.1 (meets ⟨p, p, 0, 0, false, false⟩ l r).2.2 := by
  obtain ⟨h, f1, f2⟩ := meets_mk (p := p) (X := X) (YA := YA) (YB := YB) (L := l) (R := r) ⟨p, p, 0, 0, false, false⟩ l r ⟨rfl, Nat.le_refl _, by simp, ⟨0, by simp, Sd.start ha⟩, ⟨0, by simp, Sd.start hb⟩, fun _ => ⟨rfl, rfl⟩, fun _ => ⟨rfl, rfl⟩⟩
  obtain ⟨k, hk, hs⟩ := h.ea
  obtain ⟨kb, hkb, hsb⟩ := h.eb
  have t1 := h.to1; have t2 := h.to2
  refine ⟨h.fr, h.to1, h.to2, hs.adv (by omega) (by omega) (f1.mono (by omega)), hsb.adv (by omega) (by omega) (f2.mono (by omega)), fun hf => ?_, fun hf => ?_⟩
  · obtain ⟨e1, e2⟩ := h.na hf
    refine ⟨e2, (Scr.adv ha (by omega) ?_).1⟩
    rw [e1] at f1
    exact f1.mono (by omega)
  · obtain ⟨e1, e2⟩ := h.nb hf
    refine ⟨e2, (Scr.adv hb (by omega) ?_).1⟩
    rw [e1] at f2
    exact f2.mono (by omega)
theorem startAt_far {p : Nat} {l r : List EditP} (hl : Far p l) (hr : Far p r) (h : ¬ (l = [] ∧ r = [])) : p ≤ startAt l r ∧ Far (startAt l r) l ∧ Far (startAt l r) r := by
  cases l with
  | nil =>
    cases r with
    | nil => exact absurd ⟨rfl, rfl⟩ h
    | cons f r => rw [Far.cons] at *; exact ⟨hr, fun e he => by simp at he, Nat.le_refl _⟩
  | cons e l =>
    cases r with
    | nil => rw [Far.cons] at hl; rw [Far.cons]; exact ⟨hl, Nat.le_refl _, fun e he => by simp at he⟩
    | cons f r =>
      rw [Far.cons] at *
      simp only [startAt]
      rw [Far.cons]
      split <;> omega

end Go.Proofs.Ytekeiieefkgopaa.Pb
namespace Go.Proofs.Ytekeiieefkgopaa.Pc
open Go.Proofs.Ytekeiieefkgopaa.Mc Go.Proofs.Ytekeiieefkgopaa.Mg Go.Proofs.Ytekeiieefkgopaa.Mi Go.Proofs.Ytekeiieefkgopaa.Na Go.Proofs.Ytekeiieefkgopaa.Nb Go.Proofs.Ytekeiieefkgopaa.Nc Go.Proofs.Ytekeiieefkgopaa.Nf Go.Proofs.Ytekeiieefkgopaa.Nh Go.Proofs.Ytekeiieefkgopaa.Pa Go.Proofs.Ytekeiieefkgopaa.Pb
set_option linter.unusedVariables false
set_option linter.unusedSimpArgs false

theorem cut_nat (xs : Ls) (f m : Nat) : cutL xs (f : Int) (m : Int) = (xs.drop f).take m := by
  unfold cutL
  rw [show ((f : Int) + (m : Int)).toNat = f + m from by omega, Int.toNat_natCast, List.drop_take, Nat.add_sub_cancel_left]
theorem take_glue (xs : Ls) (p n : Nat) : xs.take p ++ (xs.drop p).take n = xs.take (p + n) := (List.take_add ..).symm

/-- A region that is what its kind says. -/
structure RegOk (o a b : Ls) (r : Reg) : Prop where
  fit : FitR o a b r
  k0 : r.k = 0 → cutL o r.of r.om = cutL a r.af r.am ∧ cutL o r.of r.om = cutL b r.bf r.bm
  k1 : r.k = 1 → cutL o r.of r.om = cutL b r.bf r.bm
  k2 : r.k = 2 → cutL o r.of r.om = cutL a r.af r.am
  k3 : r.k = 3 → cutL a r.af r.am = cutL b r.bf r.bm
  k4 : r.k = 4 → cutL a r.af r.am ≠ cutL b r.bf r.bm
/-- Regions in the making. -/
structure J (o a b : Ls) (last : Reg) (out : List Reg) (p A B : Nat) (l r : List EditP) : Prop where
  po : last.of + last.om = p
  pa : last.af + last.am = A
  pb : last.bf + last.bm = B
  g1 : 0 ≤ last.of ∧ 0 ≤ last.om
  g2 : 0 ≤ last.af ∧ 0 ≤ last.am
  g3 : 0 ≤ last.bf ∧ 0 ≤ last.bm
  lo : p ≤ o.length
  la : A ≤ a.length
  lb : B ≤ b.length
  sa : Scr p (o.drop p) (a.drop A) l
  sb : Scr p (o.drop p) (b.drop B) r
  fo : out.flatMap (fun r => cutL o r.of r.om) = o.take p
  fa : out.flatMap (fun r => cutL a r.af r.am) = a.take A
  fb : out.flatMap (fun r => cutL b r.bf r.bm) = b.take B
  ok : ∀ r ∈ out, RegOk o a b r
section
variable {o a b : Ls} {last : Reg} {out : List Reg} {p A B : Nat} {l r : List EditP}
theorem J.gap (h : J o a b last out p A B l r) (n : Nat) (hn : p + n ≤ o.length) (f1 : Far (p + n) l) (f2 : Far (p + n) r) :
    J o a b (nextR last n 0 0) (out ++ [nextR last n 0 0]) (p + n) (A + n) (B + n) l r := by
  obtain ⟨a1, a2, a3⟩ := Scr.adv h.sa (by rw [List.length_drop]; omega) f1
  obtain ⟨b1, b2, b3⟩ := Scr.adv h.sb (by rw [List.length_drop]; omega) f2
  rw [List.length_drop] at a2 b2
  rw [List.drop_drop, List.drop_drop] at a3 b3
  have h1 := h.po; have h2 := h.pa; have h3 := h.pb; have q1 := h.g1; have q2 := h.g2; have q3 := h.g3; have w1 := h.lo; have w2 := h.la; have w3 := h.lb
  have eo : cutL o (last.of + last.om) n = (o.drop p).take n := by rw [h1, cut_nat]
  have ea : cutL a (last.af + last.am) (n + 0) = (a.drop A).take n := by rw [h2, Int.add_zero, cut_nat]
  have eb : cutL b (last.bf + last.bm) (n + 0) = (b.drop B).take n := by rw [h3, Int.add_zero, cut_nat]
  refine ⟨?_, ?_, ?_, ?_, ?_, ?_, hn, by omega, by omega, a3, b3, ?_, ?_, ?_, ?_⟩
  · simp only [nextR]; omega
  · simp only [nextR]; omega
  · simp only [nextR]; omega
  · simp only [nextR]; omega
  · simp only [nextR]; omega
  · simp only [nextR]; omega
  · rw [List.flatMap_append, h.fo]
    simp only [List.flatMap_cons, List.flatMap_nil, List.append_nil, nextR]
    rw [eo, take_glue]
  · rw [List.flatMap_append, h.fa]
    simp only [List.flatMap_cons, List.flatMap_nil, List.append_nil, nextR]
    rw [ea, take_glue]
  · rw [List.flatMap_append, h.fb]
    simp only [List.flatMap_cons, List.flatMap_nil, List.append_nil, nextR]
    rw [eb, take_glue]
  · intro x hx
    rcases List.mem_append.1 hx with hx | hx
    · exact h.ok x hx
    · rw [List.mem_singleton.1 hx]
      refine ⟨⟨by simp [nextR], ?_, ?_, ?_⟩, fun _ => ?_, ?_, ?_, ?_, ?_⟩
      · simp only [nextR]; omega
      · simp only [nextR]; omega
      · simp only [nextR]; omega
      · simp only [nextR]
        rw [eo, ea, eb]
        exact ⟨a1, b1⟩
      all_goals (intro hk; simp [nextR] at hk)
theorem J.clu (h : J o a b last out p A B l r) {c : Clu} {l' r' : List EditP} (hd : Done p (o.drop p) (a.drop A) (b.drop B) c l' r') :
    J o a b (nextR last ((c.to_ : Int) - c.from_) c.m0 c.m1)
      (out ++ [{ nextR last ((c.to_ : Int) - c.from_) c.m0 c.m1 with k := kindOf c (cutL a (nextR last ((c.to_ : Int) - c.from_) c.m0 c.m1).af (nextR last ((c.to_ : Int) - c.from_) c.m0 c.m1).am) (cutL b (nextR last ((c.to_ : Int) - c.from_) c.m0 c.m1).bf (nextR last ((c.to_ : Int) - c.from_) c.m0 c.m1).bm) }])
      c.to_ (A + (((c.to_ - p : Nat) : Int) + c.m0).toNat) (B + (((c.to_ - p : Nat) : Int) + c.m1).toNat) l' r' := by
  have h1 := h.po; have h2 := h.pa; have h3 := h.pb; have q1 := h.g1; have q2 := h.g2; have q3 := h.g3; have w1 := h.lo; have w2 := h.la; have w3 := h.lb
  have t1 := hd.to1; have t2 := hd.to2; have fr := hd.fr
  obtain ⟨s1, s2, s3, s4⟩ := hd.sa
  obtain ⟨z1, z2, z3, z4⟩ := hd.sb
  rw [List.length_drop] at t2 s1 s3 z1 z3
  obtain ⟨n, hn⟩ : ∃ n, c.to_ - p = n := ⟨_, rfl⟩
  rw [hn] at s1 s2 s3 s4 z1 z2 z3 z4 ⊢
  obtain ⟨u, hu⟩ : ∃ u, ((n : Int) + c.m0).toNat = u := ⟨_, rfl⟩
  obtain ⟨v, hv⟩ : ∃ v, ((n : Int) + c.m1).toNat = v := ⟨_, rfl⟩
  rw [hu, List.drop_drop, List.drop_drop, show p + n = c.to_ from by omega] at s4
  rw [hv, List.drop_drop, List.drop_drop, show p + n = c.to_ from by omega] at z4
  rw [hu, hv]
  have hna := hd.na; have hnb := hd.nb
  rw [hn] at hna hnb
  have e0 : (c.to_ : Int) - c.from_ = n := by omega
  have e1 : (n : Int) + c.m0 = u := by omega
  have e2 : (n : Int) + c.m1 = v := by omega
  have eo : cutL o (last.of + last.om) n = (o.drop p).take n := by rw [h1, cut_nat]
  have ea : cutL a (last.af + last.am) (n + c.m0) = (a.drop A).take u := by rw [h2, e1, cut_nat]
  have eb : cutL b (last.bf + last.bm) (n + c.m1) = (b.drop B).take v := by rw [h3, e2, cut_nat]
  rw [e0]
  simp only [nextR]
  rw [ea, eb]
  refine ⟨?_, ?_, ?_, ?_, ?_, ?_, by omega, by omega, by omega, s4, z4, ?_, ?_, ?_, ?_⟩
  · simp only []; omega
  · simp only []; omega
  · simp only []; omega
  · simp only []; omega
  · simp only []; omega
  · simp only []; omega
  · rw [List.flatMap_append, h.fo]
    simp only [List.flatMap_cons, List.flatMap_nil, List.append_nil]
    rw [eo, take_glue, show p + n = c.to_ from by omega]
  · rw [List.flatMap_append, h.fa]
    simp only [List.flatMap_cons, List.flatMap_nil, List.append_nil]
    rw [ea, take_glue]
  · rw [List.flatMap_append, h.fb]
    simp only [List.flatMap_cons, List.flatMap_nil, List.append_nil]
    rw [eb, take_glue]
  · intro x hx
    rcases List.mem_append.1 hx with hx | hx
    · exact h.ok x hx
    · rw [List.mem_singleton.1 hx]
      have hk : kindOf c ((a.drop A).take u) ((b.drop B).take v) = 0 ∨ kindOf c ((a.drop A).take u) ((b.drop B).take v) = 1 ∨ kindOf c ((a.drop A).take u) ((b.drop B).take v) = 2 ∨ kindOf c ((a.drop A).take u) ((b.drop B).take v) = 3 ∨ kindOf c ((a.drop A).take u) ((b.drop B).take v) = 4 := by
        unfold kindOf
        split
        · simp
        · split
          · simp
          · split <;> simp
      have hk0 : kindOf c ((a.drop A).take u) ((b.drop B).take v) ≠ 0 := by
        unfold kindOf
        split
        · simp
        · split
          · simp
          · split <;> simp
      have hk1 : kindOf c ((a.drop A).take u) ((b.drop B).take v) = 1 → c.h1 = false := by
        unfold kindOf
        split
        · intro _; assumption
        · split
          · simp
          · split <;> simp
      have hk2 : kindOf c ((a.drop A).take u) ((b.drop B).take v) = 2 → c.h0 = false := by
        unfold kindOf
        split
        · simp
        · split
          · intro _; assumption
          · split <;> simp
      have hk3 : kindOf c ((a.drop A).take u) ((b.drop B).take v) = 3 → (a.drop A).take u = (b.drop B).take v := by
        unfold kindOf
        split
        · simp
        · split
          · simp
          · split
            · intro _; assumption
            · simp
      have hk4 : kindOf c ((a.drop A).take u) ((b.drop B).take v) = 4 → (a.drop A).take u ≠ (b.drop B).take v := by
        unfold kindOf
        split
        · simp
        · split
          · simp
          · split
            · simp
            · intro _; assumption
      obtain ⟨kk, hkk⟩ : ∃ kk, kindOf c ((a.drop A).take u) ((b.drop B).take v) = kk := ⟨_, rfl⟩
      rw [hkk] at hk hk0 hk1 hk2 hk3 hk4 ⊢
      refine ⟨⟨hk, ?_, ?_, ?_⟩, fun h => absurd h hk0, fun h => ?_, fun h => ?_, fun h => ?_, fun h => ?_⟩
      · simp only []; omega
      · simp only []; omega
      · simp only []; omega
      · simp only []
        rw [eo, eb]
        obtain ⟨m1, m2⟩ := hnb (hk1 h)
        rw [m2, show v = n from by omega]
      · simp only []
        rw [eo, ea]
        obtain ⟨m1, m2⟩ := hna (hk2 h)
        rw [m2, show u = n from by omega]
      · simp only []
        rw [ea, eb]
        exact hk3 h
      · simp only []
        rw [ea, eb]
        exact hk4 h
end

end Go.Proofs.Ytekeiieefkgopaa.Pc
namespace Go.Proofs.Ytekeiieefkgopaa.Pd
open Go.Proofs.Ytekeiieefkgopaa.Mb Go.Proofs.Ytekeiieefkgopaa.Mc Go.Proofs.Ytekeiieefkgopaa.Mg Go.Proofs.Ytekeiieefkgopaa.Mi Go.Proofs.Ytekeiieefkgopaa.Na Go.Proofs.Ytekeiieefkgopaa.Nb Go.Proofs.Ytekeiieefkgopaa.Nc Go.Proofs.Ytekeiieefkgopaa.Nf Go.Proofs.Ytekeiieefkgopaa.Nh Go.Proofs.Ytekeiieefkgopaa.Pa Go.Proofs.Ytekeiieefkgopaa.Pb Go.Proofs.Ytekeiieefkgopaa.Pc
set_option linter.unusedVariables false
set_option linter.unusedSimpArgs false

theorem J.small {o a b : Ls} {last : Reg} {out : List Reg} {p A B : Nat} {l r : List EditP} (h : J o a b last out p A B l r) (ho : o.length ≤ 100000) (ha : a.length ≤ 100000) (hb : b.length ≤ 100000) : smallR last := by
  have h1 := h.po; have h2 := h.pa; have h3 := h.pb; have q1 := h.g1; have q2 := h.g2; have q3 := h.g3; have w1 := h.lo; have w2 := h.la; have w3 := h.lb
  unfold smallR
  omega
theorem meets_from (p : Nat) (c : Clu) (l r : List EditP) (h : c.from_ = p) : (meets c l r).1.from_ = p := by
  induction c, l, r using meets.induct with
  | case1 c e l hc ih => rw [meets, if_pos hc]; exact ih h
  | case2 c e l hc => rw [meets, if_neg hc]; exact h
  | case3 c e l f r hc ih => rw [meets, if_pos hc]; exact ih h
  | case4 c e l f r hc h2 ih => rw [meets, if_neg hc, if_pos h2]; exact ih h
  | case5 c e l f r hc h2 => rw [meets, if_neg hc, if_neg h2]; exact h
  | case6 c f r hc ih => rw [meets, if_pos hc]; exact ih h
  | case7 c f r hc => rw [meets, if_neg hc]; exact h
  | case8 c => rw [meets]; exact h
/-- One step. -/
theorem step_J {o a b : Ls} {s : RSt} {A B : Nat} {l r : List EditP} (h : J o a b s.last s.out s.at_ A B l r) (hne : ¬ (l = [] ∧ r = []))
    (ho : o.length ≤ 100000) (ha : a.length ≤ 100000) (hb : b.length ≤ 100000) (hl : s.out.length ≤ 1000000) :
    GoodS a b s (firstC l r).1 ∧ (stepS a b s (firstC l r).1).out.length ≤ s.out.length + 2 ∧
    ∃ A' B', J o a b (stepS a b s (firstC l r).1).last (stepS a b s (firstC l r).1).out (stepS a b s (firstC l r).1).at_ A' B' (firstC l r).2.1 (firstC l r).2.2 := by
  obtain ⟨g1, g2, g3⟩ := startAt_far (Scr.far h.sa) (Scr.far h.sb) hne
  have hlo : startAt l r ≤ o.length := by
    have hlo := h.lo
    cases l with
    | nil => cases r with
      | nil => exact absurd ⟨rfl, rfl⟩ hne
      | cons f r => obtain ⟨x1, x2, _⟩ := h.sb; rw [List.length_drop] at x2; simp only [startAt]; omega
    | cons e l => cases r with
      | nil => obtain ⟨x1, x2, _⟩ := h.sa; rw [List.length_drop] at x2; simp only [startAt]; omega
      | cons f r =>
        obtain ⟨x1, x2, _⟩ := h.sa; rw [List.length_drop] at x2
        obtain ⟨y1, y2, _⟩ := h.sb; rw [List.length_drop] at y2
        simp only [startAt]; split <;> omega
  obtain ⟨q, hq⟩ : ∃ q, startAt l r = q := ⟨_, rfl⟩
  have hC : firstC l r = meets ⟨q, q, 0, 0, false, false⟩ l r := by unfold firstC; rw [hq]
  rw [hq] at g1 g2 g3 hlo
  -- the gap
  have hg : ∃ n, q = s.at_ + n := ⟨q - s.at_, by omega⟩
  obtain ⟨n, rfl⟩ := hg
  have hf : (firstC l r).1.from_ = s.at_ + n := by
    rw [hC]
    have := fun (p : Nat) (c : Clu) (h : c.from_ = p) => meets_from p c l r h
    exact this _ _ rfl
  have hH : J o a b (headS s (firstC l r).1).last (headS s (firstC l r).1).out (s.at_ + n) (A + n) (B + n) l r ∧ (headS s (firstC l r).1).out.length ≤ s.out.length + 1 := by
    unfold headS
    rw [hf]
    by_cases hn : n = 0
    · subst hn
      rw [if_neg (by omega)]
      exact ⟨h, by omega⟩
    · rw [if_pos (by omega)]
      unfold gapS
      rw [show ((s.at_ + n : Nat) : Int) - (s.at_ : Int) = (n : Int) from by omega]
      exact ⟨h.gap n hlo g2 g3, by simp⟩
  obtain ⟨hJ, hlen⟩ := hH
  have hd := done_of hJ.sa hJ.sb
  rw [← hC] at hd
  have hJ2 := hJ.clu hd
  have t1 := hd.to1; have t2 := hd.to2; have fr := hd.fr
  rw [List.length_drop] at t2
  obtain ⟨s1, s2, s3, _⟩ := hd.sa
  obtain ⟨z1, z2, z3, _⟩ := hd.sb
  rw [List.length_drop] at s1 s3 z1 z3
  have w1 := h.lo
  have v1 := hJ2.pa; have v2 := hJ2.pb; have v3 := hJ2.g2; have v4 := hJ2.g3; have v5 := hJ2.la; have v6 := hJ2.lb
  refine ⟨⟨by omega, by omega, by omega, J.small h ho ha hb, J.small hJ ho ha hb, by omega, by omega, v3.1, v3.2, ?_, v4.1, v4.2, ?_, by omega⟩, ?_, _, _, hJ2⟩
  · unfold regS; rw [v1]; omega
  · unfold regS; rw [v2]; omega
  · unfold stepS
    simp only [List.length_append, List.length_singleton]
    omega
theorem run_J (o a b : Ls) (ho : o.length ≤ 100000) (ha : a.length ≤ 100000) (hb : b.length ≤ 100000) : ∀ (n : Nat) (l r : List EditP) (s : RSt) (A B : Nat), l.length + r.length ≤ n → J o a b s.last s.out s.at_ A B l r → s.out.length + 2 * n ≤ 1000000 →
    (∀ pre x rest, clus n l r = pre ++ x :: rest → GoodS a b (pre.foldl (stepS a b) s) x) ∧
    (∃ A' B', J o a b ((clus n l r).foldl (stepS a b) s).last ((clus n l r).foldl (stepS a b) s).out ((clus n l r).foldl (stepS a b) s).at_ A' B' [] []) ∧
    ((clus n l r).foldl (stepS a b) s).out.length ≤ s.out.length + 2 * n
  | 0, l, r, s, A, B, hn, hJ, hs => by
    have h1 : l = [] := List.length_eq_zero_iff.1 (by omega)
    have h2 : r = [] := List.length_eq_zero_iff.1 (by omega)
    subst h1 h2
    refine ⟨fun pre x rest h => by simp [clus] at h, ⟨A, B, hJ⟩, by simp [clus]⟩
  | n + 1, l, r, s, A, B, hn, hJ, hs => by
    by_cases h0 : l = [] ∧ r = []
    · have hc : clus (n + 1) l r = [] := by simp [clus, h0]
      rw [hc]
      obtain ⟨rfl, rfl⟩ := h0
      exact ⟨fun pre x rest h => by simp at h, ⟨A, B, hJ⟩, by simp⟩
    · obtain ⟨g1, g2, A', B', g3⟩ := step_J hJ h0 ho ha hb (by omega)
      have hc : clus (n + 1) l r = (firstC l r).1 :: clus n (firstC l r).2.1 (firstC l r).2.2 := by rw [clus, if_neg h0]
      have hlt := firstC_lt l r h0
      obtain ⟨i1, i2, i3⟩ := run_J o a b ho ha hb n (firstC l r).2.1 (firstC l r).2.2 (stepS a b s (firstC l r).1) A' B' (by omega) g3 (by omega)
      rw [hc]
      refine ⟨fun pre x rest h => ?_, i2, ?_⟩
      · cases pre with
        | nil =>
          simp only [List.nil_append, List.cons.injEq] at h
          rw [← h.1]; exact g1
        | cons y pre =>
          simp only [List.cons_append, List.cons.injEq] at h
          rw [List.foldl_cons, ← h.1]
          exact i1 pre x rest h.2
      · rw [List.foldl_cons]; omega

theorem start_J (o a b : Ls) (l r : List EditP) (ha : Scr 0 o a l) (hb : Scr 0 o b r) : J o a b Nf.start.last Nf.start.out Nf.start.at_ 0 0 l r := by
  refine ⟨rfl, rfl, rfl, ⟨by simp [Nf.start], by simp [Nf.start]⟩, ⟨by simp [Nf.start], by simp [Nf.start]⟩, ⟨by simp [Nf.start], by simp [Nf.start]⟩, by simp [Nf.start], by omega, by omega, by simpa [Nf.start] using ha, by simpa [Nf.start] using hb, by simp [Nf.start], by simp [Nf.start], by simp [Nf.start], fun x hx => by simp [Nf.start] at hx⟩

theorem scr_wt : ∀ (es : List EditP) (p : Nat) (x y : Ls), Scr p x y es → wt es ≤ x.length + y.length ∧ ∀ e ∈ es, e.at_ ≤ p + x.length
  | [], p, x, y, h => ⟨by simp [wt], fun e he => by simp at he⟩
  | e :: es, p, x, y, ⟨h1, h2, ys', h3, h4⟩ => by
    obtain ⟨i1, i2⟩ := scr_wt es _ _ _ h4
    rw [List.length_drop] at i1 i2
    have hl := congrArg List.length h3
    simp only [List.length_append, List.length_take] at hl
    refine ⟨by simp only [wt]; omega, fun f hf => ?_⟩
    rcases List.mem_cons.1 hf with rfl | hf
    · omega
    · have := i2 f hf; omega
theorem real_wt : ∀ (es : List EditP), Real es → es.length ≤ wt es
  | [], _ => by simp
  | e :: es, h => by
    have h1 := h e (List.mem_cons_self ..)
    have h2 := real_wt es (fun f hf => h f (List.mem_cons_of_mem _ hf))
    simp only [wt, List.length_cons]; omega
theorem diff_small (a b : Ls) (ha : a.length ≤ 100000) (hb : b.length ≤ 100000) : SmallE (diffOf a b) ∧ (diffOf a b).length ≤ a.length + b.length := by
  obtain ⟨h1, h2, h3⟩ := diff_scr a b
  obtain ⟨w1, w2⟩ := scr_wt _ _ _ _ h1
  have h4 := real_wt _ h3
  exact ⟨⟨fun e he => by have := w2 e he; omega, by omega, by omega⟩, by omega⟩

/-- What all regions are, together. -/
structure AllOk (o a b : Ls) (rs : List Reg) : Prop where
  fo : rs.flatMap (fun r => cutL o r.of r.om) = o
  fa : rs.flatMap (fun r => cutL a r.af r.am) = a
  fb : rs.flatMap (fun r => cutL b r.bf r.bm) = b
  ok : ∀ r ∈ rs, RegOk o a b r
theorem regs_ok (o a b : Ls) (ho : o.length ≤ 10000) (ha : a.length ≤ 10000) (hb : b.length ≤ 10000) :
    AllOk o a b (regionsOf o a b) ∧ (regionsOf o a b).length ≤ 4 * o.length + 2 * a.length + 2 * b.length + 1 ∧
    (∀ pre x r, clusOf (diffOf o a) (diffOf o b) = pre ++ x :: r → GoodS a b (runS a b pre) x) ∧
    ((runS a b (clusOf (diffOf o a) (diffOf o b))).at_ ≤ 1000000 ∧ smallR (runS a b (clusOf (diffOf o a) (diffOf o b))).last ∧ (runS a b (clusOf (diffOf o a) (diffOf o b))).out.length ≤ 900000000) := by
  have d1 := diff_small o a (by omega) (by omega)
  have d2 := diff_small o b (by omega) (by omega)
  obtain ⟨i1, ⟨A, B, i2⟩, i3⟩ := run_J o a b (by omega) (by omega) (by omega) ((diffOf o a).length + (diffOf o b).length) (diffOf o a) (diffOf o b) Nf.start 0 0 (Nat.le_refl _) (start_J o a b _ _ (diff_scr o a).1 (diff_scr o b).1) (by simp [Nf.start]; omega)
  have hs0 : Nf.start.out.length = 0 := rfl
  obtain ⟨s, hs⟩ : ∃ s, runS a b (clusOf (diffOf o a) (diffOf o b)) = s := ⟨_, rfl⟩
  have hs' : (clus ((diffOf o a).length + (diffOf o b).length) (diffOf o a) (diffOf o b)).foldl (stepS a b) Nf.start = s := hs
  rw [hs'] at i2 i3
  have hlo := i2.lo
  refine ⟨?_, ?_, i1, ?_⟩
  · unfold regionsOf
    rw [hs]
    unfold endS
    have fin : ∀ (last : Reg) (out : List Reg) (A B : Nat), J o a b last out o.length A B [] [] → AllOk o a b out := by
      intro last out A B h
      have ea := h.sa; have eb := h.sb
      simp only [Scr, List.drop_length] at ea eb
      have la := congrArg List.length ea; have lb := congrArg List.length eb
      rw [List.length_nil, List.length_drop] at la lb
      have l1 := h.la; have l2 := h.lb
      exact ⟨by rw [h.fo, List.take_length], by rw [h.fa, List.take_of_length_le (by omega)], by rw [h.fb, List.take_of_length_le (by omega)], h.ok⟩
    split
    · unfold gapS
      have hg := i2.gap (o.length - s.at_) (by omega) (fun e he => by simp at he) (fun e he => by simp at he)
      rw [show s.at_ + (o.length - s.at_) = o.length from by omega] at hg
      rw [show (o.length : Int) - (s.at_ : Int) = ((o.length - s.at_ : Nat) : Int) from by omega]
      exact fin _ _ _ _ hg
    · have : s.at_ = o.length := by omega
      rw [this] at i2
      exact fin _ _ _ _ i2
  · unfold regionsOf
    rw [hs]
    unfold endS
    have hl1 := d1.2; have hl2 := d2.2
    split
    · unfold gapS; simp only [List.length_append, List.length_singleton]; omega
    · omega
  · rw [hs]
    exact ⟨by omega, J.small i2 (by omega) (by omega) (by omega), by have := d1.2; have := d2.2; omega⟩

theorem tell_len (o a b : Ls) (r : Reg) (h : FitR o a b r) : (tellR o a b r).length ≤ (cutL o r.of r.om).length + (cutL a r.af r.am).length + (cutL b r.bf r.bm).length + 4 := by
  unfold tellR
  split
  · omega
  · split
    · simp [clashParts]; omega
    · omega
theorem told_len (o a b : Ls) (rs : List Reg) (h : ∀ r ∈ rs, FitR o a b r) : (rs.flatMap (tellR o a b)).length ≤ (rs.flatMap (fun r => cutL o r.of r.om)).length + (rs.flatMap (fun r => cutL a r.af r.am)).length + (rs.flatMap (fun r => cutL b r.bf r.bm)).length + 4 * rs.length := by
  induction rs with
  | nil => simp
  | cons r rs ih =>
    have h1 := tell_len o a b r (h r (List.mem_cons_self ..))
    have h2 := ih (fun x hx => h x (List.mem_cons_of_mem _ hx))
    simp only [List.flatMap_cons, List.length_append, List.length_cons]
    omega
theorem fit_of (o a b : Ls) (ho : o.length ≤ 1000) (ha : a.length ≤ 1000) (hb : b.length ≤ 1000) (so : ∀ x ∈ o, x.size ≤ 9223372036854775806) (sa : ∀ x ∈ a, x.size ≤ 9223372036854775806) (sb : ∀ x ∈ b, x.size ≤ 9223372036854775806) : Fit o a b := by
  obtain ⟨h1, h2, h3, h4⟩ := regs_ok o a b (by omega) (by omega) (by omega)
  have ht := told_len o a b _ (fun r hr => (h1.ok r hr).fit)
  rw [h1.fo, h1.fa, h1.fb] at ht
  exact ⟨by omega, by omega, by omega, so, sa, sb, (diff_small o a (by omega) (by omega)).1, (diff_small o b (by omega) (by omega)).1, h3, h4, fun r hr => (h1.ok r hr).fit, by omega, by omega⟩

end Go.Proofs.Ytekeiieefkgopaa.Pd
namespace Go.Proofs.Ytekeiieefkgopaa.Pe
open Go.RowKit Go.Proofs.Ytekeiieefkgopaa.Aa Go.Proofs.Ytekeiieefkgopaa.Mb Go.Proofs.Ytekeiieefkgopaa.Nh Go.Proofs.Ytekeiieefkgopaa.No Go.Proofs.Ytekeiieefkgopaa.Np Go.Proofs.Ytekeiieefkgopaa.Nq Go.Proofs.Ytekeiieefkgopaa.Pd
set_option linter.unusedVariables false

theorem split_sz (n : Nat) (s : ByteArray) : ∀ x ∈ splitN n s, x.size ≤ s.size := by
  induction n generalizing s with
  | zero => simp [splitN]
  | succ n ih =>
    intro x hx
    simp only [splitN] at hx
    split at hx
    · simp at hx
    · rcases List.mem_cons.1 hx with rfl | hx
      · simp only [ByteArray.size_extract]; omega
      · have := ih _ x hx
        simp only [ByteArray.size_extract] at this; omega
theorem fm_size (xs : List ByteArray) (K : Nat) (h : ∀ x ∈ xs, x.size ≤ K) : (joinS xs).size ≤ xs.length * K := by
  have : (xs.flatMap (·.data.toList)).length ≤ xs.length * K := by
    induction xs with
    | nil => simp
    | cons x xs ih =>
      have h1 := h x (List.mem_cons_self ..)
      have h2 := ih (fun y hy => h y (List.mem_cons_of_mem _ hy))
      simp only [List.flatMap_cons, List.length_append, List.length_cons, Nat.succ_mul]
      have : x.data.toList.length = x.size := rfl
      omega
  exact this
theorem cut_mem' {xs : List ByteArray} {f m : Int} {x : ByteArray} (h : x ∈ Mc.cutL xs f m) : x ∈ xs := Mc.cut_mem h
theorem closeL_size (s : ByteArray) : (closeL s).size ≤ s.size + 1 := by
  unfold closeL
  split
  · omega
  · rw [ByteArray.size_append]; exact Nat.le_refl _
theorem tell_size (o a b : List ByteArray) (K : Nat) (ho : ∀ x ∈ o, x.size ≤ K) (ha : ∀ x ∈ a, x.size ≤ K) (hb : ∀ x ∈ b, x.size ≤ K) (r : Mc.Reg) : ∀ x ∈ tellR o a b r, x.size ≤ K + 8 := by
  intro x hx
  unfold tellR at hx
  split at hx
  · have := hb x (cut_mem' hx); omega
  · split at hx
    · obtain ⟨l, hl, hx⟩ := List.mem_flatten.1 hx
      simp only [Mc.clashParts, List.mem_cons, List.mem_nil_iff, or_false] at hl
      rcases hl with rfl | rfl | rfl | rfl | rfl | rfl | rfl
      · rw [List.mem_singleton.1 hx]; show 8 ≤ _; omega
      · obtain ⟨y, hy, rfl⟩ := List.mem_map.1 hx; have := closeL_size y; have := ha y (cut_mem' hy); omega
      · rw [List.mem_singleton.1 hx]; show 8 ≤ _; omega
      · obtain ⟨y, hy, rfl⟩ := List.mem_map.1 hx; have := closeL_size y; have := ho y (cut_mem' hy); omega
      · rw [List.mem_singleton.1 hx]; show 8 ≤ _; omega
      · obtain ⟨y, hy, rfl⟩ := List.mem_map.1 hx; have := closeL_size y; have := hb y (cut_mem' hy); omega
      · rw [List.mem_singleton.1 hx]; show 8 ≤ _; omega
    · have := ha x (cut_mem' hx); omega
theorem text_size (o a b : List ByteArray) (hf : Fit o a b) (ho : ∀ x ∈ o, x.size ≤ 1000000) (ha : ∀ x ∈ a, x.size ≤ 1000000) (hb : ∀ x ∈ b, x.size ≤ 1000000) : (joinS (mergeL o a b)).size ≤ 140737488355328 := by
  have h1 := fm_size (mergeL o a b) 1000008 (fun x hx => by
    obtain ⟨r, _, hr⟩ := List.mem_flatMap.1 hx
    exact tell_size o a b 1000000 ho ha hb r x hr)
  have h2 := hf.len
  unfold mergeL at *
  have := Nat.mul_le_mul_right 1000008 h2
  omega
/-- Two sides' texts, together: of texts of up to a thousand bytes. -/
theorem text_any (o a b : ByteArray) (w : World) (ho : o.size ≤ 1000) (ha : a.size ≤ 1000) (hb : b.size ≤ 1000) :
    Calls Try.prog 27 #[.string o, .string a, .string b] w (TextP (textOf o a b) w) := by
  have lo := split_len o.size o; have la := split_len a.size a; have lb := split_len b.size b
  have so := split_sz o.size o; have sa := split_sz a.size a; have sb := split_sz b.size b
  have hf : Fit (splitS o) (splitS a) (splitS b) := fit_of _ _ _ (by unfold splitS; omega) (by unfold splitS; omega) (by unfold splitS; omega)
    (fun x hx => by have := so x hx; omega) (fun x hx => by have := sa x hx; omega) (fun x hx => by have := sb x hx; omega)
  exact text_of o a b w (by omega) (by omega) (by omega) hf (text_size _ _ _ hf (fun x hx => by have := so x hx; omega) (fun x hx => by have := sa x hx; omega) (fun x hx => by have := sb x hx; omega))


end Go.Proofs.Ytekeiieefkgopaa.Pe
