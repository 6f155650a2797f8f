/- How slices read: rows of elements in memory, that stay as they are while nothing that was there turns. -/
import Derived.WalkKit
import Derived.Laws.Slices
import Derived.Laws.AppendOwn
import Derived.Laws.AppendOwnNone
import Derived.OwnWalk
import Derived.Test.YtekeiieefkgopaaDoorAa
namespace Go.Proofs.YtekeiieefkgopaaDoor.Vw
open Go Go.RowKit Go.Proofs.YtekeiieefkgopaaDoor.Aa

/-- How a value of a kind reads, cell by cell. -/
structure El (α : Type) where
  sz : Nat
  R : World → α → List Value → Prop
  len : ∀ {w x cs}, R w x cs → cs.length = sz
  ch : ∀ {w w' x cs}, R w x cs → Ch no w w' → R w' x cs

theorem beq_no {a b : ByteArray} (h : a ≠ b) : (a.toList == b.toList) = false := by
  rw [ByteArray.toList_eq, ByteArray.toList_eq]
  exact beq_eq_false_iff_ne.2 (fun e => h (ByteArray.ext (Array.toList_inj.1 e)))
theorem beq_yes {a b : ByteArray} (h : a = b) : (a.toList == b.toList) = true := by
  subst h; exact beq_self_eq_true _
theorem take_next {α : Type} {xs ys : List α} {k : Nat} (h : xs.take k = ys.take k) (h1 : k < xs.length) (h2 : k < ys.length) (he : xs[k] = ys[k]) : xs.take (k + 1) = ys.take (k + 1) := by
  rw [List.take_succ_eq_append_getElem h1, List.take_succ_eq_append_getElem h2, h, he]

theorem add_add (a : Addr) (i j : Nat) : (a.add i).add j = a.add (i + j) := by
  unfold Addr.add
  by_cases h1 : i = 0 <;> by_cases h2 : j = 0 <;> simp [h1, h2, Nat.add_assoc]
theorem add_field (ad : Addr) (m j : Nat) (hj : 0 < j) : ad.add (m + j) = ⟨(ad.add m).block, (ad.add m).off + j, none⟩ := by
  unfold Addr.add
  by_cases hm : m = 0
  · subst hm
    simp [Nat.ne_of_gt hj]
  · simp [hm, Nat.add_assoc]
theorem add_zero (ad : Addr) : ad.add 0 = ad := by simp [Addr.add]
theorem cell_ch {w w' : World} (h : Ch no w w') {a : Addr} {v : Value} (hc : w.cell? a = some v) : w'.cell? a = some v := cellBelow h.below_no hc

namespace El
section
variable {α : Type} (d : El α)

/-- Elements in a row. -/
structure Row (w : World) (A : Option Addr) (cap : Nat) (xs : List α) : Prop where
  le : xs.length ≤ cap
  max : cap ≤ maxLen
  none_ : A = none → cap = 0
  get : ∀ i x, xs[i]? = some x → ∃ ad cs, A = some ad ∧ d.R w x cs ∧ ∀ j c, cs[j]? = some c → w.cell? (ad.add (i * d.sz + j)) = some c

variable {d} {w w' : World} {A : Option Addr} {cap : Nat} {xs : List α}
theorem Row.ch (h : d.Row w A cap xs) (hc : Ch no w w') : d.Row w' A cap xs :=
  ⟨h.le, h.max, h.none_, fun i x hx => let ⟨ad, cs, h1, h2, h3⟩ := h.get i x hx; ⟨ad, cs, h1, d.ch h2 hc, fun j c hj => cell_ch hc (h3 j c hj)⟩⟩
theorem Row.len (h : d.Row w A cap xs) : xs.length ≤ 9223372036854775807 := by have := h.le; have := h.max; unfold maxLen at *; omega
theorem Row.nil (d : El α) (w : World) : d.Row w none 0 [] := ⟨by simp, by simp, fun _ => rfl, fun i x h => by simp at h⟩
theorem Row.empty (A : Option Addr) (cap : Nat) (h : cap ≤ maxLen) (hn : A = none → cap = 0) : d.Row w A cap [] := ⟨by simp, h, hn, fun i x h => by simp at h⟩
/-- An element, by its place. -/
theorem Row.at_ (h : d.Row w A cap xs) (k : Nat) (hk : k < xs.length) : ∃ ad cs, A = some ad ∧ d.R w xs[k] cs ∧ ∀ j c, cs[j]? = some c → w.cell? (ad.add (k * d.sz + j)) = some c :=
  h.get k _ (List.getElem?_eq_getElem hk)
theorem Row.take (h : d.Row w A cap xs) (m : Nat) : d.Row w A cap (xs.take m) := by
  refine ⟨Nat.le_trans (List.length_take_le' ..) h.le, h.max, h.none_, fun i x hx => ?_⟩
  rw [List.getElem?_take] at hx
  split at hx
  · exact h.get i x hx
  · cases hx
theorem Row.drop (h : d.Row w A cap xs) (m : Nat) (hm : m ≤ xs.length) : d.Row w (if cap = m then A else A.map (·.add (m * d.sz))) (cap - m) (xs.drop m) := by
  have := h.le
  refine ⟨by rw [List.length_drop]; omega, by have := h.max; omega, fun hn => ?_, fun i x hx => ?_⟩
  · split at hn
    · have := h.none_ hn; omega
    · have := h.none_ (by simpa using hn); omega
  rw [List.getElem?_drop] at hx
  have hlt := (List.getElem?_eq_some_iff.1 hx).1
  obtain ⟨ad, cs, rfl, h2, h3⟩ := h.get _ _ hx
  rw [if_neg (by omega)]
  refine ⟨ad.add (m * d.sz), cs, rfl, h2, fun j c hj => ?_⟩
  rw [add_add, show m * d.sz + (i * d.sz + j) = (m + i) * d.sz + j by rw [Nat.add_mul]; omega]
  exact h3 j c hj

/-- A slice as an element of another one. -/
def slice (d : El α) : El (List α) where
  sz := 1
  R w xs cs := ∃ A cap, cs = [.slice A xs.length cap] ∧ d.Row w A cap xs
  len := by rintro w x cs ⟨A, cap, rfl, _⟩; rfl
  ch := by rintro w w' x cs ⟨A, cap, rfl, h⟩ hc; exact ⟨A, cap, rfl, h.ch hc⟩
end
/-- Elements of one cell, that hang on no memory. -/
def flat {α : Type} (enc : α → Value) : El α where
  sz := 1
  R _ x cs := cs = [enc x]
  len := by rintro w x cs rfl; rfl
  ch := by rintro w w' x cs rfl _; rfl
/-- Strings. -/
def str : El ByteArray := flat Value.string
/-- Whole numbers. -/
def int : El Int := flat (Value.int .i64)

/-- The cell of an element of one cell. -/
theorem Row.flat_at {α : Type} {enc : α → Value} {w : World} {A : Option Addr} {cap : Nat} {xs : List α} (h : (flat enc).Row w A cap xs) (k : Nat) (hk : k < xs.length) :
    ∃ ad, A = some ad ∧ w.cell? (ad.add k) = some (enc xs[k]) := by
  obtain ⟨ad, cs, rfl, h2, h3⟩ := h.at_ k hk
  have e : cs = [enc xs[k]] := h2
  subst e
  have := h3 0 _ rfl
  exact ⟨ad, rfl, by simpa [flat] using this⟩
theorem Row.flat_of {α : Type} {enc : α → Value} {w : World} {A : Option Addr} {cap : Nat} {xs : List α} (h1 : xs.length ≤ cap) (h2 : cap ≤ maxLen) (hn : A = none → cap = 0)
    (h : ∀ k x, xs[k]? = some x → ∃ ad, A = some ad ∧ w.cell? (ad.add k) = some (enc x)) : (flat enc).Row w A cap xs :=
  ⟨h1, h2, hn, fun i x hx => let ⟨ad, ha, hc⟩ := h i x hx; ⟨ad, [enc x], ha, rfl, fun j c hj => by
    cases j with
    | zero => have e : enc x = c := by simpa using hj
              subst e; simpa [flat] using hc
    | succ j => simp at hj⟩⟩
/-- What a call has made and owns reads as a row. -/
theorem Row.of_own {α : Type} {enc : α → Value} {w : World} {B : Nat} {e : TypeId} {v : Value} {xs : List α} (h : w.ownsRow B e 1 v xs.length (xs.map enc)) :
    ∃ A cap, v = .slice A xs.length cap ∧ (flat enc).Row w A cap xs := by
  obtain ⟨_, ⟨rfl, h2⟩ | ⟨g, cap, cur, rfl, _, hg, hn, hc, hs, ht⟩⟩ := h
  · refine ⟨none, 0, by rw [h2], Row.flat_of (by omega) (by unfold maxLen; omega) (fun _ => rfl) (fun k x hk => ?_)⟩
    have := (List.getElem?_eq_some_iff.1 hk).1
    omega
  · refine ⟨_, cap, rfl, Row.flat_of hn hc (fun h => by cases h) (fun k x hk => ⟨_, rfl, ?_⟩)⟩
    have hlt := (List.getElem?_eq_some_iff.1 hk).1
    have e : (Addr.add ⟨g, 0, none⟩ k) = ⟨g, k, none⟩ := by unfold Addr.add; split <;> simp_all
    rw [e, bCell hg]
    have h4 : (xs.map enc)[k]? = some (enc x) := by rw [List.getElem?_map, hk]; rfl
    rw [← ht, List.getElem?_take] at h4
    split at h4
    · rwa [Array.getElem?_toList] at h4
    · cases h4
end El

section
variable {P : Program} {α : Type} {d : El α}
/-- The three cuts of a slice, in whatever world. -/
theorem cut_lh (t e : TypeId) (kl kh : IntKind) {i : TypeInfo} (ht : P.underlying t = some (.slice e)) (hi : P.info? e = some i) (hsz : i.size = d.sz) (A : Option Addr) (c : Nat) (xs : List α) (a b : Int) (h0 : 0 ≤ a) (h1 : a ≤ b) (hm : b ≤ xs.length) (hc : xs.length ≤ c) :
    ∃ A' : Option Addr, (∀ W : World, (Instr.slice t (.slice A xs.length c) (some (.int kl a)) (some (.int kh b)) none).run P W = .ok (.slice A' ((xs.take b.toNat).drop a.toNat).length (c - a.toNat)) W) ∧
      ∀ w : World, d.Row w A c xs → d.Row w A' (c - a.toNat) ((xs.take b.toNat).drop a.toNat) := by
  have hlt : (xs.take b.toNat).length = b.toNat := by rw [List.length_take]; omega
  have hl : ((xs.take b.toNat).drop a.toNat).length = b.toNat - a.toNat := by rw [List.length_drop, hlt]
  refine ⟨if c = a.toNat then A else A.map (·.add (a.toNat * d.sz)), fun W => ?_, fun w h => ?_⟩
  · have hel : P.elem t = e := by simp [Program.elem, ht]
    have hu : P.underlying t = some (.slice (P.elem t)) := by rw [hel]; exact ht
    rw [run_slice_lh W t A xs.length c hu kl kh a b h0 h1 (by omega), hel, hl]
    simp [sizeOf, typeInfo, hi, hsz, sliced, Result.andThen]
  · exact (h.take b.toNat).drop a.toNat (by omega)
theorem cut_l (t e : TypeId) (kl : IntKind) {i : TypeInfo} (ht : P.underlying t = some (.slice e)) (hi : P.info? e = some i) (hsz : i.size = d.sz) (A : Option Addr) (c : Nat) (xs : List α) (a : Int) (h0 : 0 ≤ a) (hm : a ≤ xs.length) :
    ∃ A' : Option Addr, (∀ W : World, (Instr.slice t (.slice A xs.length c) (some (.int kl a)) none none).run P W = .ok (.slice A' (xs.drop a.toNat).length (c - a.toNat)) W) ∧
      ∀ w : World, d.Row w A c xs → d.Row w A' (c - a.toNat) (xs.drop a.toNat) := by
  have hl : (xs.drop a.toNat).length = xs.length - a.toNat := List.length_drop
  refine ⟨if c = a.toNat then A else A.map (·.add (a.toNat * d.sz)), fun W => ?_, fun w h => h.drop a.toNat (by omega)⟩
  have hel : P.elem t = e := by simp [Program.elem, ht]
  have hu : P.underlying t = some (.slice (P.elem t)) := by rw [hel]; exact ht
  rw [run_slice_l W t A xs.length c hu kl a h0 hm, hel, hl]
  simp [sizeOf, typeInfo, hi, hsz, sliced, Result.andThen]
theorem cut_h (t e : TypeId) (kh : IntKind) {i : TypeInfo} (ht : P.underlying t = some (.slice e)) (hi : P.info? e = some i) (A : Option Addr) (c : Nat) (xs : List α) (b : Int) (h0 : 0 ≤ b) (hm : b ≤ xs.length) (hc : xs.length ≤ c) :
    (∀ W : World, (Instr.slice t (.slice A xs.length c) none (some (.int kh b)) none).run P W = .ok (.slice A (xs.take b.toNat).length c) W) ∧
      ∀ w : World, d.Row w A c xs → d.Row w A c (xs.take b.toNat) := by
  have hl : (xs.take b.toNat).length = b.toNat := by rw [List.length_take]; omega
  refine ⟨fun W => ?_, fun w h => h.take b.toNat⟩
  have hel : P.elem t = e := by simp [Program.elem, ht]
  have hu : P.underlying t = some (.slice (P.elem t)) := by rw [hel]; exact ht
  have ha : (A.map fun x => x.add 0) = A := by cases A <;> simp [Addr.add]
  rw [run_slice_h W t A xs.length c hu kh b h0 (by omega), hel, hl]
  simp [sizeOf, typeInfo, hi, sliced, Result.andThen, ha]

/-- append(v, ys...), v the call's own, ys a row of elements of one cell (nil too). -/
theorem app_row {enc : α → Value} (h1c : ∀ x, (enc x).oneCell' = true) {w : World} {ops : Array Oper} {rest : List Oper} {o : Oper} {a : Act} {Q : Exit → Act → World → Prop} (hgd : o.guard = none) (s x : Operand) (t : TypeId)
    (ho : o.op = .call { callee := .builtin .append, args := #[s, x], argTypes := #[t, t] })
    (base : Nat) (e : TypeId) (i : TypeInfo) (z : Value) (bytes : Nat) (ht : P.underlying t = some (.slice e)) (hi : P.info? e = some i) (hz : i.zero = some z)
    (hsize : i.size = 1) (hby : i.bytes = bytes) (hzs : z.cells.size = 1)
    (v : Value) (n : Nat) (xs : List Value) (hs : a.eval s = v) (hown : w.ownsRow base e 1 v n xs)
    (A : Option Addr) (c : Nat) (ys : List α) (hx : a.eval x = .slice A ys.length c) (hrow : (El.flat enc).Row w A c ys)
    (h63 : n + ys.length ≤ maxLen) (hbytes : (n + ys.length) * bytes ≤ 140737488355328) (hbase : base ≤ w.heap.size)
    (h : ∀ v' w', w'.ownsRow base e 1 v' (n + ys.length) (xs ++ ys.map enc) → w.grownBy w' v.ownBlock → (v' = .slice none 0 0 ↔ v = .slice none 0 0 ∧ ys.length = 0) → wpList P ops Q rest (a.put o.dst v') w') : wpList P ops Q (o :: rest) a w := by
  cases hA : A with
  | none =>
    subst hA
    have hc := hrow.none_ rfl
    subst hc
    have hl : ys.length = 0 := by have := hrow.le; omega
    have hy : ys = [] := List.length_eq_zero_iff.1 hl
    subst hy
    refine wpList_append_own_none hgd s x t ho base e i 1 ht hi v n xs hs hown (by simpa using hx) ?_
    refine h v w (by simpa using hown) ⟨rfl, rfl, rfl, Nat.le_refl _, fun _ _ _ => rfl⟩ (by simp)
  | some ad =>
    subst hA
    refine wpList_append_own w hgd s x t ho base e i z 1 bytes ht hi hz hsize hby hzs (by omega) v n xs hs hown ad ys.length c (ys.map enc) hx (by simp) (fun j u hj => ?_) (fun u hu => ?_) h63 hbytes hbase h
    · rw [List.getElem?_map] at hj
      cases hy : ys[j]? with
      | none => rw [hy] at hj; simp at hj
      | some y =>
        rw [hy] at hj
        have e2 : enc y = u := by simpa using hj
        subst e2
        have hlt := (List.getElem?_eq_some_iff.1 hy).1
        obtain ⟨ad', e3, hcell⟩ := hrow.flat_at j hlt
        cases e3
        rw [(List.getElem?_eq_some_iff.1 hy).2] at hcell
        exact hcell
    · obtain ⟨y, _, rfl⟩ := List.mem_map.1 hu
      exact h1c y
theorem Ch.grown_new {S : Nat → Prop} {a w w' : World} {row : Option Nat} (h : Ch S a w) (hg : w.grownBy w' row) (hr : ∀ k, row = some k → a.heap.size ≤ k) : Ch S a w' :=
  h.trans (T := fun k => some k = row) ⟨hg.os, hg.tape, hg.output, hg.size, fun i hi hn => hg.block i hi hn⟩ (fun i hi he => by have := hr i he.symm; omega)
theorem own_ge {w : World} {base : Nat} {e : TypeId} {size n : Nat} {v : Value} {xs : List Value} (h : w.ownsRow base e size v n xs) : ∀ k, v.ownBlock = some k → base ≤ k := by
  intro k hk
  obtain ⟨_, ⟨rfl, _⟩ | ⟨g, cap, cur, rfl, hb, _⟩⟩ := h
  · simp [Value.ownBlock] at hk
  · simp [Value.ownBlock] at hk; omega
theorem own_lt {w : World} {base : Nat} {e : TypeId} {size n : Nat} {v : Value} {xs : List Value} (h : w.ownsRow base e size v n xs) : ∀ k, v.ownBlock = some k → k < w.heap.size := by
  intro k hk
  obtain ⟨_, ⟨rfl, _⟩ | ⟨g, cap, cur, rfl, hb, hg, _⟩⟩ := h
  · simp [Value.ownBlock] at hk
  · simp [Value.ownBlock] at hk
    have := blk_lt' hg
    omega
theorem own_ch {S : Nat → Prop} {w w' : World} {base : Nat} {e : TypeId} {size n : Nat} {v : Value} {xs : List Value} (h : w.ownsRow base e size v n xs) (hc : Ch S w w') (hs : ∀ k, v.ownBlock = some k → ¬ S k) : w'.ownsRow base e size v n xs := by
  obtain ⟨h0, h1 | ⟨g, cap, cur, rfl, hb, hg, h2⟩⟩ := h
  · exact ⟨h0, .inl h1⟩
  · exact ⟨h0, .inr ⟨g, cap, cur, rfl, hb, hc.blk hg (hs g rfl), h2⟩⟩
theorem own_less {w : World} {base base' : Nat} {e : TypeId} {size n : Nat} {v : Value} {xs : List Value} (h : w.ownsRow base e size v n xs) (hb : base' ≤ base) : w.ownsRow base' e size v n xs := by
  obtain ⟨h0, h1 | ⟨g, cap, cur, rfl, hbb, h2⟩⟩ := h
  · exact ⟨h0, .inl h1⟩
  · exact ⟨h0, .inr ⟨g, cap, cur, rfl, by omega, h2⟩⟩
theorem grown_ch {w w' : World} {row : Option Nat} (h : w.grownBy w' row) : Ch (fun k => some k = row) w w' := ⟨h.os, h.tape, h.output, h.size, fun i hi hn => h.block i hi hn⟩
end
end Go.Proofs.YtekeiieefkgopaaDoor.Vw
