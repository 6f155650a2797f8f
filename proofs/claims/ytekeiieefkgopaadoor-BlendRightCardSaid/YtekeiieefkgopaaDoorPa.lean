/- Edits turn the one list into the other one: plain lists. -/
import Derived.Test.YtekeiieefkgopaaDoorNc
namespace Go.Proofs.YtekeiieefkgopaaDoor.Pa
open Go.Proofs.YtekeiieefkgopaaDoor.Me Go.Proofs.YtekeiieefkgopaaDoor.Mf Go.Proofs.YtekeiieefkgopaaDoor.Mg Go.Proofs.YtekeiieefkgopaaDoor.Mi Go.Proofs.YtekeiieefkgopaaDoor.Nc
set_option linter.unusedVariables false
set_option linter.unusedSimpArgs false

abbrev Ls := List ByteArray
/-- Edits that turn lines into others, from a place on. -/
def Scr : Nat → Ls → Ls → List EditP → Prop
  | _, xs, ys, [] => xs = ys
  | p, xs, ys, e :: es => p ≤ e.at_ ∧ e.at_ - p + e.del ≤ xs.length ∧ ∃ ys', ys = xs.take (e.at_ - p) ++ (e.ins ++ ys') ∧ Scr (e.at_ + e.del) (xs.drop (e.at_ - p + e.del)) ys' es
/-- They stand apart, and each does something. -/
def Apart (es : List EditP) : Prop := es.Pairwise (fun e f => e.at_ + e.del < f.at_)
def Real (es : List EditP) : Prop := ∀ e ∈ es, 0 < e.del + e.ins.length

theorem Scr.tail (t : Ls) : ∀ (es : List EditP) (p : Nat) (x y : Ls), Scr p x y es → Scr p (x ++ t) (y ++ t) es
  | [], p, x, y, h => by simp only [Scr] at h ⊢; rw [h]
  | e :: es, p, x, y, ⟨h1, h2, ys', h3, h4⟩ => by
    refine ⟨h1, by simp; omega, ys' ++ t, ?_, ?_⟩
    · rw [h3, List.take_append_of_le_length (by omega)]; simp
    · rw [List.drop_append_of_le_length h2]
      exact Scr.tail t es _ _ _ h4
theorem Scr.snoc (e : EditP) (dl : Ls) (hd : dl.length = e.del) : ∀ (es : List EditP) (p : Nat) (x y : Ls), Scr p x y es → e.at_ = p + x.length → Scr p (x ++ dl) (y ++ e.ins) (es ++ [e])
  | [], p, x, y, h, he => by
    simp only [Scr] at h
    subst h
    refine ⟨by omega, by simp; omega, [], ?_, ?_⟩
    · rw [show e.at_ - p = x.length from by omega, List.take_left']
      · simp
      · rfl
    · simp only [Scr]
      rw [List.drop_eq_nil_of_le (by simp; omega)]
  | f :: es, p, x, y, ⟨h1, h2, ys', h3, h4⟩, he => by
    refine ⟨h1, by simp; omega, ys' ++ e.ins, ?_, ?_⟩
    · rw [h3, List.take_append_of_le_length (by omega)]; simp
    · rw [List.drop_append_of_le_length h2]
      exact Scr.snoc e dl hd es _ _ _ h4 (by rw [List.length_drop]; omega)
theorem Scr.front (fr : Ls) : ∀ (es : List EditP) (p : Nat) (x y : Ls), Scr (p + fr.length) x y es → Scr p (fr ++ x) (fr ++ y) es
  | [], p, x, y, h => by simp only [Scr] at h ⊢; rw [h]
  | e :: es, p, x, y, ⟨h1, h2, ys', h3, h4⟩ => by
    have e1 : e.at_ - p = fr.length + (e.at_ - (p + fr.length)) := by omega
    refine ⟨by omega, by simp; omega, ys', ?_, ?_⟩
    · rw [h3, e1, List.take_length_add_append]; simp
    · rw [e1, Nat.add_assoc, List.drop_length_add_append]
      exact h4

/-- A way leads from the one list to the other one. -/
def Path : List Op3 → Ls → Ls → Prop
  | [], x, y => x = [] ∧ y = []
  | .keep :: r, x, y => ∃ a x' y', x = a :: x' ∧ y = a :: y' ∧ Path r x' y'
  | .del :: r, x, y => ∃ a x', x = a :: x' ∧ Path r x' y
  | .ins s :: r, x, y => ∃ y', y = s :: y' ∧ Path r x y'
theorem way_path (x y : Ls) : Path (way x y) x y := by
  induction x, y using way.induct with
  | case1 => simp [way, Path]
  | case2 a x ih => rw [way]; exact ⟨a, x, rfl, ih⟩
  | case3 b y ih => rw [way]; exact ⟨y, rfl, ih⟩
  | case4 x b y ih => rw [way, if_pos rfl]; exact ⟨b, x, y, rfl, rfl, ih⟩
  | case5 a x b y h h2 ih => rw [way, if_neg h, if_pos h2]; exact ⟨a, x, rfl, ih⟩
  | case6 a x b y h h2 ih => rw [way, if_neg h, if_neg h2]; exact ⟨y, rfl, ih⟩

/-- What is known while edits are made: the last one may be open. -/
def Open (p : Nat) (X Y : Ls) (out : List EditP) : Prop :=
  ∃ out0 e X0 Y0 dl, out = out0 ++ [e] ∧ X = X0 ++ dl ∧ Y = Y0 ++ e.ins ∧ Scr p X0 Y0 out0 ∧ e.at_ = p + X0.length ∧ dl.length = e.del
def StI (p : Nat) (X Y : Ls) (o : Bool) (out : List EditP) : Prop := if o then Open p X Y out else Scr p X Y out
theorem Open.scr {p : Nat} {X Y : Ls} {out : List EditP} (h : Open p X Y out) : Scr p X Y out := by
  obtain ⟨out0, e, X0, Y0, dl, rfl, rfl, rfl, h1, h2, h3⟩ := h
  exact Scr.snoc e dl h3 out0 p X0 Y0 h1 h2
theorem StI.scr {p : Nat} {X Y : Ls} {o : Bool} {out : List EditP} (h : StI p X Y o out) : Scr p X Y out := by
  unfold StI at h
  cases o
  · simpa using h
  · exact Open.scr (by simpa using h)
theorem StI.open_ {p i : Nat} {X Y : Ls} {o : Bool} {out : List EditP} (h : StI p X Y o out) (hi : i = p + X.length) : Open p X Y (if o then out else out ++ [⟨i, 0, []⟩]) := by
  unfold StI at h
  cases o
  · exact ⟨out, ⟨i, 0, []⟩, X, Y, [], by simp, by simp, by simp, by simpa using h, by simpa using hi, rfl⟩
  · simpa using h
theorem last_mod {α : Type} (l : List α) (e : α) (f : α → α) : (l ++ [e]).modify ((l ++ [e]).length - 1) f = l ++ [f e] := by
  rw [List.length_append, List.length_singleton, Nat.add_sub_cancel]
  induction l with
  | nil => rfl
  | cons a l ih => simp only [List.cons_append, List.length_cons, List.modify_succ_cons, ih]
theorem Open.del {p : Nat} {X Y : Ls} {out : List EditP} (h : Open p X Y out) (a : ByteArray) : Open p (X ++ [a]) Y (lastDel out) := by
  obtain ⟨out0, e, X0, Y0, dl, rfl, rfl, rfl, h1, h2, h3⟩ := h
  refine ⟨out0, { e with del := e.del + 1 }, X0, Y0, dl ++ [a], ?_, by simp, rfl, h1, h2, by simp [h3]⟩
  unfold lastDel; rw [last_mod]
theorem Open.ins {p : Nat} {X Y : Ls} {out : List EditP} (h : Open p X Y out) (s : ByteArray) : Open p X (Y ++ [s]) (lastIns out s) := by
  obtain ⟨out0, e, X0, Y0, dl, rfl, rfl, rfl, h1, h2, h3⟩ := h
  refine ⟨out0, { e with ins := e.ins ++ [s] }, X0, Y0, dl, ?_, rfl, by simp, h1, h2, h3⟩
  unfold lastIns; rw [last_mod]
theorem grp_scr : ∀ (ops : List Op3) (x y : Ls) (p i : Nat) (o : Bool) (out : List EditP) (X Y : Ls), Path ops x y → i = p + X.length → StI p X Y o out → Scr p (X ++ x) (Y ++ y) (grp ops i o out)
  | [], x, y, p, i, o, out, X, Y, hp, hi, h => by
    obtain ⟨rfl, rfl⟩ := hp
    simpa [grp] using h.scr
  | .keep :: r, x, y, p, i, o, out, X, Y, hp0, hi, h => by
    obtain ⟨a, x', y', rfl, rfl, hp⟩ := hp0
    have := grp_scr r x' y' p (i + 1) false out (X ++ [a]) (Y ++ [a]) hp (by simp; omega) (by simpa [StI] using Scr.tail [a] out p X Y h.scr)
    simpa [grp] using this
  | .del :: r, x, y, p, i, o, out, X, Y, hp0, hi, h => by
    obtain ⟨a, x', rfl, hp⟩ := hp0
    have := grp_scr r x' y p (i + 1) true _ (X ++ [a]) Y hp (by simp; omega) (by simpa [StI] using (h.open_ hi).del a)
    simpa [grp] using this
  | .ins s :: r, x, y, p, i, o, out, X, Y, hp0, hi, h => by
    obtain ⟨y', rfl, hp⟩ := hp0
    have := grp_scr r x y' p i true _ X (Y ++ [s]) hp hi (by simpa [StI] using (h.open_ hi).ins s)
    simpa [grp] using this

/-- .. they stand apart, and do something. -/
def OpA (i : Nat) (out : List EditP) : Prop := ∃ out0 e, out = out0 ++ [e] ∧ Apart out0 ∧ Real out0 ∧ (∀ f ∈ out0, f.at_ + f.del < e.at_) ∧ e.at_ + e.del = i
def StA (i : Nat) (o : Bool) (out : List EditP) : Prop := if o then OpA i out ∧ Real out else Apart out ∧ Real out ∧ ∀ e ∈ out, e.at_ + e.del < i
theorem StA.fin {i : Nat} {o : Bool} {out : List EditP} (h : StA i o out) : Apart out ∧ Real out ∧ ∀ e ∈ out, e.at_ + e.del < i + 1 := by
  unfold StA at h
  cases o
  · simp at h; exact ⟨h.1, h.2.1, fun e he => by have := h.2.2 e he; omega⟩
  · simp at h
    obtain ⟨⟨out0, e, rfl, h1, h2, h3, h4⟩, hr⟩ := h
    refine ⟨?_, hr, ?_⟩
    · unfold Apart at *
      rw [List.pairwise_append]
      exact ⟨h1, List.pairwise_singleton _ _, fun f hf g hg => by rw [List.mem_singleton.1 hg]; exact h3 f hf⟩
    · intro f hf
      rcases List.mem_append.1 hf with hf | hf
      · have := h3 f hf; omega
      · rw [List.mem_singleton.1 hf]; omega
theorem StA.open_ {i : Nat} {o : Bool} {out : List EditP} (h : StA i o out) : OpA i (if o then out else out ++ [⟨i, 0, []⟩]) := by
  unfold StA at h
  cases o
  · simp at h
    exact ⟨out, ⟨i, 0, []⟩, rfl, h.1, h.2.1, h.2.2, rfl⟩
  · simp at h; simpa using h.1
theorem OpA.del {i : Nat} {out : List EditP} (h : OpA i out) : StA (i + 1) true (lastDel out) := by
  obtain ⟨out0, e, rfl, h1, h2, h3, h4⟩ := h
  have e1 : lastDel (out0 ++ [e]) = out0 ++ [{ e with del := e.del + 1 }] := by unfold lastDel; rw [last_mod]
  rw [e1]
  refine (if_pos rfl).mpr ⟨⟨out0, _, rfl, h1, h2, h3, by simp only []; omega⟩, ?_⟩
  intro f hf
  rcases List.mem_append.1 hf with hf | hf
  · exact h2 f hf
  · rw [List.mem_singleton.1 hf]; simp only []; omega
theorem OpA.ins {i : Nat} {out : List EditP} (h : OpA i out) (s : ByteArray) : StA i true (lastIns out s) := by
  obtain ⟨out0, e, rfl, h1, h2, h3, h4⟩ := h
  have e1 : lastIns (out0 ++ [e]) s = out0 ++ [{ e with ins := e.ins ++ [s] }] := by unfold lastIns; rw [last_mod]
  rw [e1]
  refine (if_pos rfl).mpr ⟨⟨out0, _, rfl, h1, h2, h3, h4⟩, ?_⟩
  intro f hf
  rcases List.mem_append.1 hf with hf | hf
  · exact h2 f hf
  · rw [List.mem_singleton.1 hf]; simp only [List.length_append, List.length_singleton]; omega
theorem grp_apart : ∀ (ops : List Op3) (i : Nat) (o : Bool) (out : List EditP), StA i o out → Apart (grp ops i o out) ∧ Real (grp ops i o out)
  | [], i, o, out, h => ⟨h.fin.1, h.fin.2.1⟩
  | .keep :: r, i, o, out, h => by
    simp only [grp]
    exact grp_apart r (i + 1) false out ((if_neg (by simp)).mpr ⟨h.fin.1, h.fin.2.1, h.fin.2.2⟩)
  | .del :: r, i, o, out, h => by
    simp only [grp]
    exact grp_apart r (i + 1) true _ h.open_.del
  | .ins s :: r, i, o, out, h => by
    simp only [grp]
    exact grp_apart r i true _ (h.open_.ins s)

theorem take_alike {xs ys : Ls} {n : Nat} (h : ∀ i, i < n → xs[i]? = ys[i]?) : xs.take n = ys.take n := by
  apply List.ext_getElem?
  intro i
  rw [List.getElem?_take, List.getElem?_take]
  split
  · exact h i (by assumption)
  · rfl
theorem front_alike (a b : Ls) : a.take (frontN a b) = b.take (frontN a b) :=
  take_alike fun i hi => by
    have := (firstNot_spec (sameAt a b) (min a.length b.length)).2.1 i hi
    simpa [sameAt] using this
theorem end_alike (a b : Ls) : a.drop (a.length - endN a b) = b.drop (b.length - endN a b) := by
  have h := (firstNot_spec (sameEnd a b) (min a.length b.length)).2.1
  have hle := endN_le a b
  apply List.ext_getElem?
  intro j
  rw [List.getElem?_drop, List.getElem?_drop]
  by_cases hj : j < endN a b
  · have := h (endN a b - 1 - j) (by unfold endN at *; omega)
    simp only [sameEnd, decide_eq_true_eq] at this
    rw [show a.length - 1 - (endN a b - 1 - j) = a.length - endN a b + j from by omega, show b.length - 1 - (endN a b - 1 - j) = b.length - endN a b + j from by omega] at this
    exact this
  · rw [List.getElem?_eq_none (by omega), List.getElem?_eq_none (by omega)]
theorem mid_scr (f : Nat) (x y : Ls) : Scr f x y (midDiff f x y) ∧ Apart (midDiff f x y) ∧ Real (midDiff f x y) := by
  unfold midDiff
  split
  · rename_i h
    obtain ⟨rfl, rfl⟩ := h
    exact ⟨rfl, List.Pairwise.nil, fun e he => by simp at he⟩
  · rename_i h
    split
    · refine ⟨⟨Nat.le_refl _, by simp, [], by simp, by simp [Scr]⟩, List.pairwise_singleton _ _, fun e he => ?_⟩
      rw [List.mem_singleton.1 he]
      simp only []
      rcases Nat.eq_zero_or_pos x.length with h0 | h0
      · rcases Nat.eq_zero_or_pos y.length with h1 | h1
        · exact absurd ⟨List.length_eq_zero_iff.1 h0, List.length_eq_zero_iff.1 h1⟩ h
        · omega
      · omega
    · refine ⟨?_, grp_apart _ _ _ _ ((if_neg (by simp)).mpr ⟨List.Pairwise.nil, fun e he => by simp at he, fun e he => by simp at he⟩)⟩
      have := grp_scr (way x y) x y f f false [] [] [] (way_path x y) (by simp) (by simp [StI, Scr])
      simpa using this
/-- The edits turn the one list into the other one; they stand apart, and each does something. -/
theorem diff_scr (a b : Ls) : Scr 0 a b (diffOf a b) ∧ Apart (diffOf a b) ∧ Real (diffOf a b) := by
  unfold diffOf
  obtain ⟨f, hf⟩ : ∃ f, frontN a b = f := ⟨_, rfl⟩
  have hal := front_alike a b
  have hle := frontN_le a b
  rw [hf] at hal hle ⊢
  obtain ⟨x0, hx0⟩ : ∃ x, a.drop f = x := ⟨_, rfl⟩
  obtain ⟨y0, hy0⟩ : ∃ y, b.drop f = y := ⟨_, rfl⟩
  have hend := end_alike x0 y0
  rw [hx0, hy0]
  obtain ⟨k, hk⟩ : ∃ k, endN x0 y0 = k := ⟨_, rfl⟩
  rw [hk] at hend ⊢
  obtain ⟨h1, h2⟩ := mid_scr f (x0.take (x0.length - k)) (y0.take (y0.length - k))
  refine ⟨?_, h2⟩
  have h3 := Scr.tail (x0.drop (x0.length - k)) _ _ _ _ h1
  rw [List.take_append_drop] at h3
  rw [hend, List.take_append_drop] at h3
  have h4 := Scr.front (a.take f) _ 0 x0 y0 (by rw [List.length_take, Nat.min_eq_left hle.1, Nat.zero_add]; exact h3)
  rw [← hx0, List.take_append_drop] at h4
  rw [hal, ← hy0, List.take_append_drop] at h4
  rw [hx0] at h4
  rw [← hy0]
  exact h4

end Go.Proofs.YtekeiieefkgopaaDoor.Pa
