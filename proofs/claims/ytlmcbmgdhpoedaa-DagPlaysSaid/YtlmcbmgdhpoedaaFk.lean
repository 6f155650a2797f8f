/- The document's graph: how a list of nodes lies that a call has made. -/
import Derived.Test.YtlmcbmgdhpoedaaFj
namespace Go.Proofs.Ytlmcbmgdhpoedaa.Fk
open Go Go.RowKit Go.Proofs.Ytlmcbmgdhpoedaa.Aa Go.Proofs.Ytlmcbmgdhpoedaa.Vw Go.Proofs.Ytlmcbmgdhpoedaa.Da Go.Proofs.Ytlmcbmgdhpoedaa.Db Go.Proofs.Ytlmcbmgdhpoedaa.De Go.Proofs.Ytlmcbmgdhpoedaa.Di Go.Proofs.Ytlmcbmgdhpoedaa.Ds Go.Proofs.Ytlmcbmgdhpoedaa.Du Go.Proofs.Ytlmcbmgdhpoedaa.Fa Go.Proofs.Ytlmcbmgdhpoedaa.Fb Go.Proofs.Ytlmcbmgdhpoedaa.Fc Go.Proofs.Ytlmcbmgdhpoedaa.Fd Go.Proofs.Ytlmcbmgdhpoedaa.Fe
set_option linter.unusedVariables false
set_option linter.unusedSimpArgs false

/-- Strings in memory stay. -/
def Str (w w' : World) : Prop := ∀ a s, w.cell? a = some (.string s) → w'.cell? a = some (.string s)
section
variable {w w' r : World} {S : Nat → Prop}
theorem Str.refl (w : World) : Str w w := fun _ _ h => h
theorem Str.trans {a b c : World} (h : Str a b) (k : Str b c) : Str a c := fun x s hx => k x s (h x s hx)
theorem Str.of_ch (h : Ch no w w') : Str w w' := fun a s hc => cell_ch h hc
theorem Str.of_turn (h : Ch S w w') (hs : ∀ k, S k → ∀ a s, a.block = k → w.cell? a ≠ some (.string s)) : Str w w' := by
  intro a s hc
  have hlt := World.block_lt_of_cell? w a hc
  have hn : ¬ S a.block := fun hS => hs _ hS a s rfl hc
  unfold World.cell? at hc ⊢
  rw [h.block _ hlt hn]
  exact hc
theorem Str.step (h : Str r w) (hc : Ch S w w') (hS : ∀ k, S k → r.heap.size ≤ k) : Str r w' := by
  intro a s ha
  have hlt := World.block_lt_of_cell? r a ha
  have h1 := h a s ha
  have hlt2 := World.block_lt_of_cell? w a h1
  unfold World.cell? at h1 ⊢
  rw [hc.block _ hlt2 (fun hs => by have := hS _ hs; omega)]
  exact h1
theorem Str.set {a : Addr} {u : Value} (v : Value) (h : w.cell? a = some u) (hu : ∀ s, u ≠ .string s) : Str w (w.setCell a v) := by
  intro b s hb
  by_cases e : a = b
  · subst e
    rw [h] at hb
    exact absurd (Option.some.inj hb) (hu s)
  · rw [World.cell?_setCell_other _ _ _ _ e]; exact hb
theorem row_str {A : Option Addr} {c : Nat} {xs : List Nm} (hr : El.str.Row w A c xs) (h : Str w w') : El.str.Row w' A c xs := by
  refine ⟨hr.le, hr.max, hr.none_, fun i x hx => ?_⟩
  obtain ⟨ad, cs, h1, h2, h3⟩ := hr.get i x hx
  have e : cs = [.string x] := h2
  subst e
  refine ⟨ad, _, h1, h2, fun j c hj => ?_⟩
  have hc := h3 j c hj
  have e2 : c = .string x := by
    cases j with
    | zero => simpa using hj.symm
    | succ j => simp at hj
  subst e2
  exact h _ _ hc
theorem RowV.str {v : Value} {xs : List Nm} (hr : RowV w v xs) (h : Str w w') : RowV w' v xs := by
  obtain ⟨A, c, rfl, hr⟩ := hr; exact ⟨A, c, rfl, row_str hr h⟩
/-- The cells of nodes; their parents lie in the world. -/
inductive NC (w : World) : List Value → List Nd → Prop where
  | nil : NC w [] []
  | cons {x : Nd} {v : Value} {cs : List Value} {l : List Nd} : RowV w v x.par → NC w cs l → NC w (.string x.id :: v :: .bool x.inn :: cs) (x :: l)
variable {cs : List Value} {L : List Nd}
theorem NC.str (h : NC w cs L) (hs : Str w w') : NC w' cs L := by
  induction h with
  | nil => exact .nil
  | cons h1 _ ih => exact .cons (RowV.str h1 hs) ih
theorem NC.len (h : NC w cs L) : cs.length = L.length * 3 := by
  induction h with
  | nil => rfl
  | cons _ _ ih => simp only [List.length_cons, ih]; omega
theorem NC.snoc (h : NC w cs L) {x : Nd} {v : Value} (hv : RowV w v x.par) : NC w (cs ++ [.string x.id, v, .bool x.inn]) (L ++ [x]) := by
  induction h with
  | nil => exact .cons hv .nil
  | cons h1 _ ih => exact .cons h1 ih
theorem NC.at_ (h : NC w cs L) : ∀ k x, L[k]? = some x → ∃ v, RowV w v x.par ∧ cs[k * 3]? = some (.string x.id) ∧ cs[k * 3 + 1]? = some v ∧ cs[k * 3 + 2]? = some (.bool x.inn) := by
  induction h with
  | nil => intro k x hx; simp at hx
  | @cons y v cs l h1 _ ih =>
    intro k x hx
    cases k with
    | zero =>
      have e : y = x := by simpa using hx
      subst e
      exact ⟨v, h1, rfl, rfl, rfl⟩
    | succ k =>
      obtain ⟨u, h2, h3, h4, h5⟩ := ih k x (by simpa using hx)
      refine ⟨u, h2, ?_, ?_, ?_⟩
      · rw [show (k + 1) * 3 = k * 3 + 1 + 1 + 1 by omega]; simpa using h3
      · rw [show (k + 1) * 3 + 1 = k * 3 + 1 + 1 + 1 + 1 by omega]; simpa using h4
      · rw [show (k + 1) * 3 + 2 = k * 3 + 2 + 1 + 1 + 1 by omega]; simpa using h5
theorem NC.set (h : NC w cs L) : ∀ k x, L[k]? = some x → NC w (cs.set (k * 3 + 2) (.bool true)) (L.set k ⟨x.id, x.par, true⟩) := by
  induction h with
  | nil => intro k x hx; simp at hx
  | @cons y v cs l h1 h2 ih =>
    intro k x hx
    cases k with
    | zero =>
      have e : y = x := by simpa using hx
      subst e
      exact NC.cons (x := ⟨y.id, y.par, true⟩) h1 h2
    | succ k =>
      rw [show (k + 1) * 3 + 2 = k * 3 + 2 + 1 + 1 + 1 by omega]
      simp only [List.set_cons_succ]
      exact .cons h1 (ih k x (by simpa using hx))
/-- A list of nodes of a call's own; their parents lay in the world r. -/
def OwnN (w r : World) (v : Value) (L : List Nd) : Prop := ∃ cs, w.ownsRow r.heap.size 42 3 v L.length cs ∧ NC r cs L
theorem nc_row {g cap : Nat} {cur : Array Value} {e : TypeId} (hb : w.heap[g]? = some (.cells cur e (0, 0))) (hn : L.length ≤ cap) (hm : cap ≤ maxLen) (ht : cur.toList.take (L.length * 3) = cs) (hc : NC w cs L) : nd.Row w (some ⟨g, 0, none⟩) cap L := by
  refine ⟨hn, hm, fun h => (by cases h), fun i x hx => ?_⟩
  have hi := (List.getElem?_eq_some_iff.1 hx).1
  obtain ⟨v, h1, h2, h3, h4⟩ := hc.at_ i x hx
  obtain ⟨A, c, rfl, hr⟩ := h1
  refine ⟨_, _, rfl, ⟨A, c, rfl, hr⟩, fun j u hj => ?_⟩
  have e1 : (Addr.add ⟨g, 0, none⟩ (i * nd.sz + j)) = ⟨g, i * 3 + j, none⟩ := by
    show (Addr.add ⟨g, 0, none⟩ (i * 3 + j)) = _
    unfold Addr.add; split <;> simp_all
  have hg : ∀ (m : Nat) (u : Value), cs[m]? = some u → cur[m]? = some u := by
    intro m u hu
    rw [← ht, List.getElem?_take] at hu
    split at hu
    · simpa using hu
    · cases hu
  rw [e1, bCell hb]
  match j, hj with
  | 0, hj => have e : Value.string x.id = u := by simpa using hj
             subst e; exact hg _ _ h2
  | 1, hj => have e : Value.slice A x.par.length c = u := by simpa using hj
             subst e; exact hg _ _ h3
  | 2, hj => have e : Value.bool x.inn = u := by simpa using hj
             subst e; exact hg _ _ h4
  | _ + 3, hj => simp at hj
/-- A graph of the document whose list lies at an address of the call's own. -/
structure RefG (w r : World) (R : Nat) (ad : Addr) (c : Nat) (L : List Nd) : Prop where
  box : w.heap[R]? = some (.cells #[.slice (some ad) L.length c] 40 (0, 0))
  own : ∃ cs, w.ownsRow 0 42 3 (.slice (some ad) L.length c) L.length cs ∧ NC r cs L
  str : Str r w
variable {R c : Nat} {ad : Addr}
theorem RefG.row (h : RefG w r R ad c L) : nd.Row w (some ad) c L := by
  obtain ⟨cs, ho, hc⟩ := h.own
  obtain ⟨_, ⟨h1, _⟩ | ⟨g, cap, cur, h1, _, hg, hn, hm, hs, ht⟩⟩ := ho
  · cases h1
  · cases h1
    exact nc_row hg hn hm ht (hc.str h.str)
theorem RefG.ref (h : RefG w r R ad c L) : RefV w R L := ⟨_, _, h.box, h.row⟩
theorem RefG.ch (h : RefG w r R ad c L) (hc : Ch S w w') (h1 : ¬ S R) (h2 : ¬ S ad.block) (hS : ∀ k, S k → r.heap.size ≤ k) : RefG w' r R ad c L := by
  obtain ⟨hb, ⟨cs, ho, hn⟩, hs⟩ := h
  exact ⟨hc.blk hb h1, ⟨cs, own_ch ho hc (fun k hk => by cases hk; exact h2), hn⟩, hs.step hc hS⟩
theorem RefG.set (h : RefG w r R ad c L) (k : Nat) (x : Nd) (hx : L[k]? = some x) :
    RefG (w.setCell ⟨(ad.add (k * 3)).block, (ad.add (k * 3)).off + 2, none⟩ (.bool true)) r R ad c (L.set k ⟨x.id, x.par, true⟩) := by
  have hk := (List.getElem?_eq_some_iff.1 hx).1
  have hrow := h.row
  obtain ⟨hb, ⟨cs, ho, hc⟩, hs⟩ := h
  have hcl := hc.len
  obtain ⟨h0, ⟨h1, _⟩ | ⟨g, cap, cur, h1, h2, hg, hn, hm, hz, ht⟩⟩ := ho
  · cases h1
  cases h1
  have ea : (Addr.add ⟨g, 0, none⟩ (k * 3)) = ⟨g, k * 3, none⟩ := by unfold Addr.add; split <;> simp_all
  rw [ea]
  have hne : R ≠ g := by
    intro e
    subst e
    rw [hb] at hg
    cases hg
  have hlen : (L.set k ⟨x.id, x.par, true⟩).length = L.length := List.length_set ..
  obtain ⟨v, _, _, _, h5⟩ := hc.at_ k x hx
  refine ⟨?_, ⟨cs.set (k * 3 + 2) (.bool true), ?_, hc.set k x hx⟩, ?_⟩
  · rw [hlen]
    exact (Ch.set1 w g (k * 3 + 2) (.bool true)).blk hb hne
  · rw [hlen]
    refine ⟨by rw [List.length_set]; exact h0, .inr ⟨g, c, cur.setIfInBounds (k * 3 + 2) (.bool true), rfl, h2, bSet hg _ _, hn, hm, by simpa using hz, ?_⟩⟩
    rw [Array.toList_setIfInBounds, List.take_set, ht]
  · have hcell : w.cell? ⟨g, k * 3 + 2, none⟩ = some (.bool x.inn) := by
      rw [bCell hg, ← Array.getElem?_toList]
      rw [← ht, List.getElem?_take] at h5
      split at h5
      · exact h5
      · cases h5
    exact hs.trans (Str.set _ hcell (fun s e => by cases e))
end
theorem infoNode : (Try.prog.info? 42).map (fun i => (i.zero, i.size, i.bytes)) = some (some (.agg #[.string ByteArray.empty, .slice none 0 0, .bool false]), 3, 48) := by kernel_rfl
theorem news_of (Z : World) (cs : List Value) (ty : TypeId) (j : Nat) (u : Value) (h : cs[j]? = some u) : (Z.alloc (.cells cs.toArray ty)).cell? ((⟨Z.heap.size, 0, none⟩ : Addr).add j) = some u := by
  have e : (⟨Z.heap.size, 0, none⟩ : Addr).add j = ⟨Z.heap.size, j, none⟩ := by cases j <;> simp [Addr.add]
  rw [e, bCell (bNew Z _) j]
  simpa using h
end Go.Proofs.Ytlmcbmgdhpoedaa.Fk
