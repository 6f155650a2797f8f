/- The edits between two lists that are small enough. -/
import Derived.Test.YtekeiieefkgopaaDoorMf
import Derived.Maps.AppendAt
import Derived.BigRegion
namespace Go.Proofs.YtekeiieefkgopaaDoor.Mg
open Go.RowKit Go.Proofs.YtekeiieefkgopaaDoor.Aa Go.Proofs.YtekeiieefkgopaaDoor.Vw Go.Proofs.YtekeiieefkgopaaDoor.Ma Go.Proofs.YtekeiieefkgopaaDoor.Mr Go.Proofs.YtekeiieefkgopaaDoor.Mb Go.Proofs.YtekeiieefkgopaaDoor.Me Go.Proofs.YtekeiieefkgopaaDoor.Mf
attribute [local go_sem] mx2 mn2 mxOp mnOp
set_option linter.unusedVariables false
set_option linter.unusedSimpArgs false

/-- An edit. -/
structure EditP where
  at_ : Nat
  del : Nat
  ins : List ByteArray
/-- Lines stay, go, or come. -/
inductive Op3 where
  | keep
  | del
  | ins (s : ByteArray)
/-- The way between two lists. -/
def way : List ByteArray → List ByteArray → List Op3
  | [], [] => []
  | _ :: x, [] => .del :: way x []
  | [], b :: y => .ins b :: way [] y
  | a :: x, b :: y => if a = b then .keep :: way x y else if lcs (a :: x) y ≤ lcs x (b :: y) then .del :: way x (b :: y) else .ins b :: way (a :: x) y
termination_by x y => x.length + y.length
def lastDel (es : List EditP) : List EditP := es.modify (es.length - 1) (fun e => { e with del := e.del + 1 })
def lastIns (es : List EditP) (s : ByteArray) : List EditP := es.modify (es.length - 1) (fun e => { e with ins := e.ins ++ [s] })
/-- The edits of a way, from behind so many lines on; the last one open or not. -/
def grp : List Op3 → Nat → Bool → List EditP → List EditP
  | [], _, _, out => out
  | .keep :: r, i, _, out => grp r (i + 1) false out
  | .del :: r, i, o, out => grp r (i + 1) true (lastDel (if o then out else out ++ [⟨i, 0, []⟩]))
  | .ins s :: r, i, o, out => grp r i true (lastIns (if o then out else out ++ [⟨i, 0, []⟩]) s)

theorem infoEdit : (Tryd.prog.info? 188).map (fun i => (i.zero, i.size, i.bytes)) = some (some (.agg #[.int .i64 0, .int .i64 0, .slice none 0 0]), 3, 40) := by kernel_rfl

/-- Two lists' blocks are unlike. -/
def NeB (v u : Value) : Prop := ∀ b, v.ownBlock = some b → u.ownBlock ≠ some b
/-- Edits in the making, at block g: their cells; the lines that come are lists of their own. -/
structure EB (w : World) (B g cap : Nat) (es : List EditP) (svs : Nat → Value) : Prop where
  blk : ∃ cur : Array Value, w.heap[g]? = some (.cells cur 188 (0, 0)) ∧ cur.size = cap * 3 ∧ ∀ j e, es[j]? = some e → cur[j * 3]? = some (.int .i64 e.at_) ∧ cur[j * 3 + 1]? = some (.int .i64 e.del) ∧ cur[j * 3 + 2]? = some (svs j)
  own : ∀ j e, es[j]? = some e → OwnS w B (svs j) e.ins
  ne : ∀ i j, i < j → j < es.length → NeB (svs i) (svs j)
  le : es.length ≤ cap
  max : cap ≤ maxLen
  ge : B ≤ g
/-- Edits in the making: none, or some at a block. -/
def EO (w : World) (B : Nat) (v : Value) (es : List EditP) : Prop := (v = .slice none 0 0 ∧ es = []) ∨ ∃ g cap svs, v = .slice (some ⟨g, 0, none⟩) es.length cap ∧ EB w B g cap es svs

theorem own_type {w : World} {B : Nat} {e : TypeId} {size n : Nat} {v : Value} {xs : List Value} (h : w.ownsRow B e size v n xs) {g : Nat} {cs : Array Value} {t : TypeId} {fr : Nat × Nat} (hg : w.heap[g]? = some (.cells cs t fr)) (ht : t ≠ e) : v.ownBlock ≠ some g := by
  intro hv
  obtain ⟨_, ⟨rfl, _⟩ | ⟨b, cap, cur, rfl, _, hb, _⟩⟩ := h
  · simp [Value.ownBlock] at hv
  · have e2 : b = g := by simpa [Value.ownBlock] using hv
    subst e2
    rw [hg] at hb
    injection hb with hb
    injection hb with _ h2
    exact ht h2
theorem EB.ch {S : Nat → Prop} {w w' : World} {B g cap : Nat} {es : List EditP} {svs : Nat → Value} (h : EB w B g cap es svs) (hc : Ch S w w') (hs : ∀ k, k < w.heap.size → ¬ S k) : EB w' B g cap es svs := by
  obtain ⟨cur, hb, h1, h2⟩ := h.blk
  exact ⟨⟨cur, hc.blk hb (hs g (blk_lt' hb)), h1, h2⟩, fun j e he => own_ch (h.own j e he) hc (fun k hk => hs k (own_lt (h.own j e he) k hk)), h.ne, h.le, h.max, h.ge⟩
theorem EO.ch {S : Nat → Prop} {w w' : World} {B : Nat} {v : Value} {es : List EditP} (h : EO w B v es) (hc : Ch S w w') (hs : ∀ k, k < w.heap.size → ¬ S k) : EO w' B v es := by
  rcases h with h | ⟨g, cap, svs, e, h⟩
  · exact .inl h
  · exact .inr ⟨g, cap, svs, e, h.ch hc hs⟩
/-- The row as the law of append asks it. -/
theorem EO.row {w : World} {B : Nat} {v : Value} {es : List EditP} (h : EO w B v es) : ∃ xs, w.ownsRow B 188 3 v es.length xs := by
  rcases h with ⟨rfl, rfl⟩ | ⟨g, cap, svs, rfl, h⟩
  · exact ⟨[], by simp, .inl ⟨rfl, rfl⟩⟩
  · obtain ⟨cur, hb, h1, h2⟩ := h.blk
    refine ⟨cur.toList.take (es.length * 3), ?_, .inr ⟨g, cap, cur, rfl, h.ge, hb, h.le, h.max, h1, rfl⟩⟩
    have hcl : cur.toList.length = cap * 3 := by rw [Array.length_toList]; exact h1
    rw [List.length_take, hcl]
    have := Nat.mul_le_mul_right 3 h.le
    omega
/-- One more edit behind the others: what the law of append gives. -/
theorem EO.snoc {w w' : World} {B : Nat} {v v' : Value} {es : List EditP} {xs : List Value} (h : EO w B v es) (hrow : w.ownsRow B 188 3 v es.length xs) (i : Nat)
    (hrow' : w'.ownsRow B 188 3 v' (es.length + 1) (xs ++ [.int .i64 i, .int .i64 0, .slice none 0 0])) (hg : w.grownBy w' v.ownBlock) : EO w' B v' (es ++ [⟨i, 0, []⟩]) := by
  obtain ⟨hl, ⟨_, h0⟩ | ⟨g, cap, cur, rfl, hge, hb, hn, hc, hs, ht⟩⟩ := hrow'
  · omega
  have hxl := hrow.1
  have hcell : ∀ (q : Nat) (u : Value), (xs ++ [Value.int .i64 i, .int .i64 0, .slice none 0 0])[q]? = some u → cur[q]? = some u := by
    intro q u hq
    rw [← ht, List.getElem?_take] at hq
    split at hq
    · rwa [Array.getElem?_toList] at hq
    · cases hq
  have hnew : ∀ (q : Nat) (u : Value), [Value.int .i64 i, .int .i64 0, .slice none 0 0][q]? = some u → cur[es.length * 3 + q]? = some u := by
    intro q u hq
    apply hcell
    rw [List.getElem?_append_right (by omega), hxl, Nat.add_sub_cancel_left]
    exact hq
  rcases h with ⟨rfl, rfl⟩ | ⟨g0, cap0, svs, rfl, h⟩
  · refine .inr ⟨g, cap, fun _ => .slice none 0 0, rfl, ⟨⟨cur, hb, hs, fun j e hj => ?_⟩, fun j e hj => ?_, fun a b hab hb2 => ?_, hn, hc, hge⟩⟩
    · have hj0 : j = 0 := by have := (List.getElem?_eq_some_iff.1 hj).1; simp at this; exact this
      subst hj0
      have he : e = ⟨i, 0, []⟩ := by simpa using hj.symm
      subst he
      exact ⟨by simpa using hnew 0 _ rfl, by simpa using hnew 1 _ rfl, by simpa using hnew 2 _ rfl⟩
    · have hj0 : j = 0 := by have := (List.getElem?_eq_some_iff.1 hj).1; simp at this; exact this
      subst hj0
      have he : e = ⟨i, 0, []⟩ := by simpa using hj.symm
      subst he
      exact ⟨by simp, .inl ⟨rfl, rfl⟩⟩
    · simp at hb2; omega
  · obtain ⟨cur0, hb0, h1, h2⟩ := h.blk
    obtain ⟨hxl2, ⟨hx, _⟩ | ⟨g1, cap1, cur1, hx, _, hb1, _, _, hs1, ht1⟩⟩ := hrow
    · cases hx
    cases hx
    rw [hb0] at hb1
    cases hb1
    have hold : ∀ (q : Nat) (u : Value), q < es.length * 3 → cur0[q]? = some u → cur[q]? = some u := by
      intro q u hq hu
      apply hcell
      rw [List.getElem?_append_left (by omega), ← ht1, List.getElem?_take, if_pos hq, Array.getElem?_toList]
      exact hu
    have hne0 : ∀ j e, es[j]? = some e → ∀ k, (svs j).ownBlock = some k → some k ≠ (Value.slice (some ⟨g0, 0, none⟩) es.length cap0).ownBlock := by
      intro j e he k hk hkk
      have e2 : k = g0 := by simpa [Value.ownBlock] using hkk
      subst e2
      exact own_type (h.own j e he) hb0 (by decide) hk
    refine .inr ⟨g, cap, fun j => if j < es.length then svs j else .slice none 0 0, by rw [List.length_append]; rfl, ⟨⟨cur, hb, hs, fun j e hj => ?_⟩, fun j e hj => ?_, fun a b hab hb2 => ?_, by rw [List.length_append]; exact hn, hc, hge⟩⟩
    · by_cases hlt : j < es.length
      · rw [List.getElem?_append_left hlt] at hj
        obtain ⟨q0, q1, q2⟩ := h2 j e hj
        rw [if_pos hlt]
        exact ⟨hold _ _ (by omega) q0, hold _ _ (by omega) q1, hold _ _ (by omega) q2⟩
      · have hjl := (List.getElem?_eq_some_iff.1 hj).1
        rw [List.length_append] at hjl
        have hje : j = es.length := by simp at hjl; omega
        subst hje
        have he : e = ⟨i, 0, []⟩ := by simpa using hj.symm
        subst he
        rw [if_neg hlt]
        exact ⟨by simpa using hnew 0 _ rfl, by simpa using hnew 1 _ rfl, by simpa using hnew 2 _ rfl⟩
    · by_cases hlt : j < es.length
      · rw [List.getElem?_append_left hlt] at hj
        rw [if_pos hlt]
        exact own_ch (h.own j e hj) (grown_ch hg) (fun k hk hs => hne0 j e hj k hk hs)
      · have hjl := (List.getElem?_eq_some_iff.1 hj).1
        rw [List.length_append] at hjl
        have hje : j = es.length := by simp at hjl; omega
        subst hje
        have he : e = ⟨i, 0, []⟩ := by simpa using hj.symm
        subst he
        rw [if_neg hlt]
        exact ⟨by simp, .inl ⟨rfl, rfl⟩⟩
    · simp at hb2
      by_cases hlt : b < es.length
      · rw [if_pos (by omega), if_pos hlt]
        exact h.ne a b hab hlt
      · rw [if_neg hlt]
        intro k _ hk
        simp [Value.ownBlock] at hk

theorem modify_at {α : Type} (l : List α) (n : Nat) (f : α → α) (j : Nat) : (l.modify n f)[j]? = if n = j then (l[j]?).map f else l[j]? := by
  rw [List.getElem?_modify]; split <;> simp
theorem EB.cellDel {w : World} {B g cap : Nat} {es : List EditP} {svs : Nat → Value} (h : EB w B g cap es svs) (j : Nat) (e : EditP) (he : es[j]? = some e) :
    w.cell? ⟨g, j * 3 + 1, none⟩ = some (.int .i64 e.del) ∧ w.cell? ⟨g, j * 3 + 2, none⟩ = some (svs j) ∧ w.frozen? ⟨g, j * 3 + 1, none⟩ = false ∧ w.frozen? ⟨g, j * 3 + 2, none⟩ = false := by
  obtain ⟨cur, hb, h1, h2⟩ := h.blk
  obtain ⟨a, b, c⟩ := h2 j e he
  exact ⟨(bCell hb _).trans b, (bCell hb _).trans c, bFree hb _, bFree hb _⟩
theorem EB.setDel {w : World} {B g cap : Nat} {es : List EditP} {svs : Nat → Value} (h : EB w B g cap es svs) (j : Nat) (e : EditP) (hj : j + 1 = es.length) (he : es[j]? = some e) (v : Int) (hv : v = e.del + 1) :
    EB (w.setCell ⟨g, j * 3 + 1, none⟩ (.int .i64 v)) B g cap (lastDel es) svs := by
  obtain ⟨cur, hb, h1, h2⟩ := h.blk
  have hjl : (lastDel es).length = es.length := by unfold lastDel; rw [List.length_modify]
  have hat : ∀ i x, (lastDel es)[i]? = some x → ∃ y, es[i]? = some y ∧ x.at_ = y.at_ ∧ x.ins = y.ins ∧ x.del = if i = j then y.del + 1 else y.del := by
    intro i x hx
    unfold lastDel at hx
    rw [modify_at] at hx
    split at hx
    · cases hy : es[i]? with
      | none => rw [hy] at hx; simp at hx
      | some y =>
        rw [hy] at hx
        have e1 : x = { y with del := y.del + 1 } := by simpa using hx.symm
        subst e1
        exact ⟨y, rfl, rfl, rfl, by rw [if_pos (by omega)]⟩
    · exact ⟨x, hx, rfl, rfl, by rw [if_neg (by omega)]⟩
  have hlt : j * 3 + 1 < cur.size := by have := h.le; rw [h1]; omega
  refine ⟨⟨cur.setIfInBounds (j * 3 + 1) (.int .i64 v), bSet hb _ _, by simpa using h1, fun i x hx => ?_⟩, fun i x hx => ?_, fun a b hab hb2 => h.ne a b hab (by rw [hjl] at hb2; exact hb2), by rw [hjl]; exact h.le, h.max, h.ge⟩
  · obtain ⟨y, hy, e1, e2, e3⟩ := hat i x hx
    obtain ⟨q0, q1, q2⟩ := h2 i y hy
    rw [e1]
    refine ⟨by rw [Array.getElem?_setIfInBounds_ne (by omega)]; exact q0, ?_, by rw [Array.getElem?_setIfInBounds_ne (by omega)]; exact q2⟩
    by_cases hij : i = j
    · subst hij
      rw [he] at hy
      cases hy
      rw [Array.getElem?_setIfInBounds_self_of_lt hlt, e3, if_pos rfl, hv]
      rfl
    · rw [Array.getElem?_setIfInBounds_ne (by omega), e3, if_neg hij]
      exact q1
  · obtain ⟨y, hy, e1, e2, e3⟩ := hat i x hx
    rw [e2]
    exact own_ch (h.own i y hy) (Ch.set1 w g _ _) (fun k hk (hs : k = g) => own_type (h.own i y hy) hb (by decide) (by rw [hk, hs]))
theorem EB.setIns {w w1 : World} {B g cap : Nat} {es : List EditP} {svs : Nat → Value} (h : EB w B g cap es svs) (j : Nat) (e : EditP) (hj : j + 1 = es.length) (he : es[j]? = some e) (s : ByteArray) (v' : Value)
    (hown : OwnS w1 B v' (e.ins ++ [s])) (hg : w.grownBy w1 (svs j).ownBlock) (hat' : v'.ownBlock = (svs j).ownBlock ∨ ∃ b, v'.ownBlock = some b ∧ w.heap.size ≤ b) :
    EB (w1.setCell ⟨g, j * 3 + 2, none⟩ v') B g cap (lastIns es s) (fun i => if i = j then v' else svs i) := by
  obtain ⟨cur, hb, h1, h2⟩ := h.blk
  have hjl : (lastIns es s).length = es.length := by unfold lastIns; rw [List.length_modify]
  have hat : ∀ i x, (lastIns es s)[i]? = some x → ∃ y, es[i]? = some y ∧ x.at_ = y.at_ ∧ x.del = y.del ∧ x.ins = if i = j then y.ins ++ [s] else y.ins := by
    intro i x hx
    unfold lastIns at hx
    rw [modify_at] at hx
    split at hx
    · cases hy : es[i]? with
      | none => rw [hy] at hx; simp at hx
      | some y =>
        rw [hy] at hx
        have e1 : x = { y with ins := y.ins ++ [s] } := by simpa using hx.symm
        subst e1
        exact ⟨y, rfl, rfl, rfl, by rw [if_pos (by omega)]⟩
    · exact ⟨x, hx, rfl, rfl, by rw [if_neg (by omega)]⟩
  have hlt : j * 3 + 2 < cur.size := by have := h.le; rw [h1]; omega
  have hgj : (svs j).ownBlock ≠ some g := own_type (h.own j e he) hb (by decide)
  have hb1 : w1.heap[g]? = some (.cells cur 188 (0, 0)) := (grown_ch hg).blk hb (fun hs => hgj hs.symm)
  have hother : ∀ i, i ≠ j → i < es.length → NeB (svs i) (svs j) := by
    intro i hij hi
    rcases Nat.lt_or_ge i j with hlt | hge
    · exact h.ne i j hlt (by omega)
    · omega
  refine ⟨⟨cur.setIfInBounds (j * 3 + 2) v', bSet hb1 _ _, by simpa using h1, fun i x hx => ?_⟩, fun i x hx => ?_, fun a b hab hb2 => ?_, by rw [hjl]; exact h.le, h.max, h.ge⟩
  · obtain ⟨y, hy, e1, e2, e3⟩ := hat i x hx
    obtain ⟨q0, q1, q2⟩ := h2 i y hy
    rw [e1, e2]
    refine ⟨by rw [Array.getElem?_setIfInBounds_ne (by omega)]; exact q0, by rw [Array.getElem?_setIfInBounds_ne (by omega)]; exact q1, ?_⟩
    by_cases hij : i = j
    · subst hij
      rw [Array.getElem?_setIfInBounds_self_of_lt hlt]
      simp
    · rw [Array.getElem?_setIfInBounds_ne (by omega)]
      simp only [if_neg hij]
      exact q2
  · obtain ⟨y, hy, e1, e2, e3⟩ := hat i x hx
    rw [e3]
    by_cases hij : i = j
    · subst hij
      rw [he] at hy
      cases hy
      simp only [if_true]
      refine own_ch hown (Ch.set1 w1 g _ _) (fun k hk (hs : k = g) => own_type hown hb1 (by decide) (by rw [hk, hs]))
    · simp only [if_neg hij]
      have hil := (List.getElem?_eq_some_iff.1 hy).1
      refine own_ch (own_ch (h.own i y hy) (grown_ch hg) (fun k hk hs => hother i hij hil k hk hs.symm)) (Ch.set1 w1 g _ _) (fun k hk (hs : k = g) => own_type (h.own i y hy) hb (by decide) (by rw [hk, hs]))
  · rw [hjl] at hb2
    have ha : a ≠ j := by omega
    simp only [if_neg ha]
    by_cases hbj : b = j
    · subst hbj
      simp only [if_true]
      intro k hk hk2
      rcases hat' with hh | ⟨b', hh, hb'⟩
      · rw [hh] at hk2
        exact h.ne a b hab hb2 k hk hk2
      · rw [hh] at hk2
        cases hk2
        have hay : es[a]? = some es[a] := List.getElem?_eq_getElem (by omega)
        have := own_lt (h.own a _ hay) _ hk
        omega
    · simp only [if_neg hbj]
      exact h.ne a b hab hb2

/-- The row may lie from an earlier block on. -/
theorem EO.less {w : World} {B B' : Nat} {v : Value} {es : List EditP} (h : EO w B v es) (hb : B' ≤ B) : EO w B' v es := by
  rcases h with h | ⟨g, cap, svs, e, h⟩
  · exact .inl h
  · exact .inr ⟨g, cap, svs, e, ⟨h.blk, fun j e he => own_less (h.own j e he) hb, h.ne, h.le, h.max, by have := h.ge; omega⟩⟩

/-- One more edit, at the operation. -/
theorem app_edit {W : World} {ops : Array Oper} {rest : List Oper} {o : Oper} {a : Act} {Q : Exit → Act → World → Prop} (hgd : o.guard = none) (s x : Operand)
    (ho : o.op = .call { callee := .builtin .append, args := #[s, x], argTypes := #[160, 160] })
    (B : Nat) (v : Value) (es : List EditP) (h : EO W B v es) (hs : a.eval s = v) (q : Int) (p : Nat) (hq : q = p)
    (hx : a.eval x = .slice (some ⟨W.heap.size, 0, none⟩) 1 1) (hlen : es.length ≤ 2000000) (hB : B ≤ W.heap.size)
    (hK : ∀ v' w', EO w' B v' (es ++ [⟨p, 0, []⟩]) → (∀ {S : Nat → Prop} {w0 : World}, Ch S w0 W → w0.heap.size ≤ B → Ch S w0 w') → wpList Tryd.prog ops Q rest (a.put o.dst v') w') :
    wpList Tryd.prog ops Q (o :: rest) a (W.alloc (.cells #[.int .i64 q, .int .i64 0, .slice none 0 0] 188)) := by
  obtain ⟨i0, hi, hz0, hz1, hz2⟩ := info_parts infoEdit
  obtain ⟨xs, hrow⟩ := h.row
  have hc : Ch no W (W.alloc (.cells #[.int .i64 q, .int .i64 0, .slice none 0 0] 188)) := (Ch.refl no W).alloc _
  subst hq
  refine wpList_append_own_at _ hgd s x 160 ho B 188 i0 _ 3 40 Tryd.underlying160 hi hz0 hz1 hz2 rfl (by omega) v es.length xs hs (own_ch hrow hc (fun _ _ => no_not _)) ⟨W.heap.size, 0, none⟩ 1 1 [.int .i64 (p : Int), .int .i64 0, .slice none 0 0] hx rfl ?_ ?_ (by unfold maxLen; omega) (by omega) (by have := hc.size; omega) ?_
  · intro j u hj
    have hb := bNew W (.cells #[.int .i64 (p : Int), .int .i64 0, .slice none 0 0] 188)
    have e : (⟨W.heap.size, 0, none⟩ : Addr).add j = ⟨W.heap.size, j, none⟩ := by cases j <;> simp [Addr.add]
    rw [e, bCell hb j]
    simpa using hj
  · intro u hu
    simp at hu
    rcases hu with rfl | rfl | rfl <;> rfl
  · intro v' w' hown hgrow _ _
    refine hK v' w' (EO.snoc (h.ch hc (fun _ _ => no_not _)) (own_ch hrow hc (fun _ _ => no_not _)) p hown hgrow) ?_
    intro S w0 hw0 hb
    exact Ch.grown_new (hw0.then_ hc) hgrow (fun k hk => by have := own_ge hrow k hk; omega)

theorem EB.apart {w : World} {B g cap : Nat} {es : List EditP} {svs : Nat → Value} (h : EB w B g cap es svs) (j : Nat) (e : EditP) (he : es[j]? = some e) : (svs j).ownBlock ≠ some g := by
  obtain ⟨cur, hb, h1, h2⟩ := h.blk
  exact own_type (h.own j e he) hb (by decide)

end Go.Proofs.YtekeiieefkgopaaDoor.Mg
