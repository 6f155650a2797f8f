/- The regions, by lists; what is known between two rounds of the loop that makes them. -/
import Derived.Test.YtekeiieefkgopaaDoorNe
namespace Go.Proofs.YtekeiieefkgopaaDoor.Nf
open Go.RowKit Go.Proofs.YtekeiieefkgopaaDoor.Aa Go.Proofs.YtekeiieefkgopaaDoor.Vw Go.Proofs.YtekeiieefkgopaaDoor.Ma Go.Proofs.YtekeiieefkgopaaDoor.Mr Go.Proofs.YtekeiieefkgopaaDoor.Mb Go.Proofs.YtekeiieefkgopaaDoor.Mc Go.Proofs.YtekeiieefkgopaaDoor.Mg Go.Proofs.YtekeiieefkgopaaDoor.Mi Go.Proofs.YtekeiieefkgopaaDoor.Mt Go.Proofs.YtekeiieefkgopaaDoor.Na Go.Proofs.YtekeiieefkgopaaDoor.Nb Go.Proofs.YtekeiieefkgopaaDoor.Nc Go.Proofs.YtekeiieefkgopaaDoor.Ne
set_option linter.unusedVariables false
set_option linter.unusedSimpArgs false

/-- Regions in the making: the last one, how far it goes, all. -/
structure RSt where
  last : Reg
  at_ : Nat
  out : List Reg
def gapS (s : RSt) (n : Int) : RSt := ⟨nextR s.last n 0 0, s.at_, s.out ++ [nextR s.last n 0 0]⟩
def headS (s : RSt) (c : Clu) : RSt := if s.at_ < c.from_ then gapS s ((c.from_ : Int) - s.at_) else s
def regS (s : RSt) (c : Clu) : Reg := nextR (headS s c).last ((c.to_ : Int) - c.from_) c.m0 c.m1
def kindS (a b : List ByteArray) (s : RSt) (c : Clu) : Int := kindOf c (cutL a (regS s c).af (regS s c).am) (cutL b (regS s c).bf (regS s c).bm)
def stepS (a b : List ByteArray) (s : RSt) (c : Clu) : RSt := ⟨regS s c, c.to_, (headS s c).out ++ [{ regS s c with k := kindS a b s c }]⟩
def start : RSt := ⟨⟨0, 0, 0, 0, 0, 0, 0⟩, 0, []⟩
def runS (a b : List ByteArray) (cs : List Clu) : RSt := cs.foldl (stepS a b) start
def endS (s : RSt) (n : Nat) : RSt := if s.at_ < n then gapS s ((n : Int) - s.at_) else s
def clusOf (l r : List EditP) : List Clu := clus (l.length + r.length) l r
def regionsOf (o a b : List ByteArray) : List Reg := (endS (runS a b (clusOf (diffOf o a) (diffOf o b))) o.length).out
theorem runS_snoc (a b : List ByteArray) (cs : List Clu) (c : Clu) : runS a b (cs ++ [c]) = stepS a b (runS a b cs) c := by simp [runS]

/-- A step that stays within the lists. -/
structure GoodS (a b : List ByteArray) (s : RSt) (c : Clu) : Prop where
  at_ : s.at_ ≤ 100000000
  ft : c.from_ ≤ c.to_
  tb : c.to_ ≤ 100000000
  sm : smallR s.last
  hm : smallR (headS s c).last
  m0 : -1000000000 ≤ c.m0 ∧ c.m0 ≤ 1000000000
  m1 : -1000000000 ≤ c.m1 ∧ c.m1 ≤ 1000000000
  a0 : 0 ≤ (regS s c).af
  a1 : 0 ≤ (regS s c).am
  a2 : (regS s c).af + (regS s c).am ≤ a.length
  b0 : 0 ≤ (regS s c).bf
  b1 : 0 ≤ (regS s c).bm
  b2 : (regS s c).bf + (regS s c).bm ≤ b.length
  ln : (headS s c).out.length ≤ 900000000

/-- The last one of the call's own regions. -/
theorem OwnR.last {w : World} {B g cap : Nat} {rs : List Reg} {r : Reg} (h : OwnR w B (.slice (some ⟨g, 0, none⟩) (rs.length + 1) cap) (rs ++ [r])) :
    ∃ cur, w.heap[g]? = some (.cells cur 144 (0, 0)) ∧ ∀ j, j < 7 → cur[rs.length * 7 + j]? = r.cells[j]? := by
  unfold OwnR at h
  obtain ⟨hl, ⟨hn, _⟩ | ⟨g', cap', cur, hv, hb, hg, hnc, hc, hs, ht⟩⟩ := h
  · cases hn
  · injection hv with h1 h2 h3
    injection h1 with h1
    injection h1 with h1
    subst h1
    refine ⟨cur, hg, fun j hj => ?_⟩
    have h4 : ((rs ++ [r]).flatMap Reg.cells)[rs.length * 7 + j]? = r.cells[j]? := by
      rw [List.flatMap_append, List.getElem?_append_right (by rw [flat_len7]; omega), flat_len7, show rs.length * 7 + j - rs.length * 7 = j from by omega]
      simp
    rw [← ht, List.getElem?_take, if_pos (by simp; omega), Array.getElem?_toList] at h4
    exact h4
theorem OwnR.setK {w : World} {B g cap : Nat} {rs : List Reg} {r : Reg} (h : OwnR w B (.slice (some ⟨g, 0, none⟩) (rs.length + 1) cap) (rs ++ [r])) (k : Int) :
    OwnR (w.setCell ⟨g, rs.length * 7, none⟩ (.int .i64 k)) B (.slice (some ⟨g, 0, none⟩) (rs.length + 1) cap) (rs ++ [{ r with k := k }]) := by
  unfold OwnR at h ⊢
  obtain ⟨hl, ⟨hn, _⟩ | ⟨g', cap', cur, hv, hb, hg, hnc, hc, hs, ht⟩⟩ := h
  · cases hn
  · injection hv with h1 h2 h3
    injection h1 with h1
    injection h1 with h1
    subst h1
    refine ⟨by rw [flat_len7], .inr ⟨g, cap', cur.setIfInBounds (rs.length * 7) (.int .i64 k), by rw [h3]; simp, hb, bSet hg _ _, by simpa using hnc, hc, by simpa using hs, ?_⟩⟩
    have hlen : (rs ++ [r]).length * 7 = rs.length * 7 + 7 := by simp; omega
    have hlen2 : (rs ++ [{ r with k := k }]).length * 7 = rs.length * 7 + 7 := by simp; omega
    rw [hlen] at ht
    rw [hlen2]
    apply List.ext_getElem?
    intro i
    have h5 : (cur.toList.take (rs.length * 7 + 7))[i]? = ((rs ++ [r]).flatMap Reg.cells)[i]? := by rw [ht]
    rw [List.getElem?_take] at h5 ⊢
    rw [List.flatMap_append] at h5 ⊢
    rw [Array.toList_setIfInBounds, List.getElem?_set]
    by_cases hi : i < rs.length * 7 + 7
    · rw [if_pos hi] at h5 ⊢
      by_cases he : rs.length * 7 = i
      · subst he
        have hcs : rs.length * 7 < cur.toList.length := by
          have h7 : (rs ++ [r]).length ≤ cap' := hnc
          have h8 : cur.toList.length = cap' * 7 := by rw [← hs]; simp
          rw [List.length_append] at h7
          simp only [List.length_cons, List.length_nil] at h7
          omega
        rw [if_pos rfl, if_pos hcs, List.getElem?_append_right (by rw [flat_len7]; omega), flat_len7]
        simp [Reg.cells]
      · rw [if_neg he, h5]
        by_cases hlt : i < rs.length * 7
        · rw [List.getElem?_append_left (by rw [flat_len7]; exact hlt), List.getElem?_append_left (by rw [flat_len7]; exact hlt)]
        · rw [List.getElem?_append_right (by rw [flat_len7]; omega), List.getElem?_append_right (by rw [flat_len7]; omega), flat_len7]
          obtain ⟨j, hj⟩ : ∃ j, i - rs.length * 7 = j + 1 := ⟨i - rs.length * 7 - 1, by omega⟩
          rw [hj]
          simp [Reg.cells]
    · rw [if_neg hi, List.getElem?_eq_none]
      rw [List.length_append, flat_len7]
      simp [Reg.cells]
      omega
theorem OwnR.nil (w : World) (B : Nat) : OwnR w B (.slice none 0 0) [] := ⟨rfl, .inl ⟨rfl, rfl⟩⟩

/-- Between two rounds. -/
structure RI (w0 W : World) (B ga gb g7 g8 g9 g10 : Nat) (Aa Ab : Option Addr) (ca cb : Nat) (a b : List ByteArray) (v : Value) (s : RSt) : Prop where
  ch : Ch no w0 W
  ba : W.heap[ga]? = some (.cells #[.slice Aa a.length ca] 25 (0, 0))
  bb : W.heap[gb]? = some (.cells #[.slice Ab b.length cb] 25 (0, 0))
  b7 : W.heap[g7]? = some (.cells #[v] 139 (0, 0))
  own : OwnR W B v s.out
  b8 : W.heap[g8]? = some (.cells s.last.cells.toArray 144 (0, 0))
  b9 : W.heap[g9]? = some (.cells #[.func (.func 125) #[] #[.pointer (some ⟨g8, 0, none⟩), .pointer (some ⟨g7, 0, none⟩)]] 156 (0, 0))
  b10 : W.heap[g10]? = some (.cells #[.int .i64 s.at_] 3 (0, 0))
theorem RI.keep {S : Nat → Prop} {w0 W X : World} {B ga gb g7 g8 g9 g10 : Nat} {Aa Ab : Option Addr} {ca cb : Nat} {a b : List ByteArray} {v : Value} {s : RSt} (h : RI w0 W B ga gb g7 g8 g9 g10 Aa Ab ca cb a b v s) (hc : Ch S W X)
    (h0 : ∀ k, S k → w0.heap.size ≤ k) (h1 : ¬ S ga) (h2 : ¬ S gb) (h3 : ¬ S g7) (h4 : ¬ S g8) (h5 : ¬ S g9) (h6 : ¬ S g10) (h7 : ∀ k, v.ownBlock = some k → ¬ S k) : RI w0 X B ga gb g7 g8 g9 g10 Aa Ab ca cb a b v s :=
  ⟨⟨hc.os.trans h.ch.os, hc.tape.trans h.ch.tape, hc.output.trans h.ch.output, Nat.le_trans h.ch.size hc.size, fun k hk hn => (hc.block k (Nat.lt_of_lt_of_le hk h.ch.size) (fun hs => by have := h0 k hs; omega)).trans (h.ch.block k hk hn)⟩,
    hc.blk h.ba h1, hc.blk h.bb h2, hc.blk h.b7 h3, own_ch h.own hc h7, hc.blk h.b8 h4, hc.blk h.b9 h5, hc.blk h.b10 h6⟩
/-- Where the boxes lie. -/
def Bx (w0 : World) (B ga gb g7 g8 g9 g10 : Nat) : Prop := w0.heap.size = ga ∧ gb = ga + 1 ∧ g7 = ga + 2 ∧ g8 = ga + 3 ∧ g9 = ga + 4 ∧ g10 = ga + 5 ∧ ga + 6 ≤ B
section
variable {w0 W X : World} {B ga gb g7 g8 g9 g10 : Nat} {Aa Ab : Option Addr} {ca cb : Nat} {a b : List ByteArray} {v v' : Value} {s : RSt}
theorem Ch.under {S : Nat → Prop} (h : Ch no w0 W) (hc : Ch S W X) (h0 : ∀ k, S k → w0.heap.size ≤ k) : Ch no w0 X :=
  ⟨hc.os.trans h.os, hc.tape.trans h.tape, hc.output.trans h.output, Nat.le_trans h.size hc.size, fun k hk hn => (hc.block k (Nat.lt_of_lt_of_le hk h.size) (fun hs => by have := h0 k hs; omega)).trans (h.block k hk hn)⟩
theorem RI.add (h : RI w0 W B ga gb g7 g8 g9 g10 Aa Ab ca cb a b v s) (hb : Bx w0 B ga gb g7 g8 g9 g10) {r : Reg} {out : List Reg} (h8 : X.heap[g8]? = some (.cells r.cells.toArray 144 (0, 0))) (h7 : X.heap[g7]? = some (.cells #[v'] 139 (0, 0))) (ho : OwnR X B v' out)
    (hc : Ch (fun k => k = g8 ∨ k = g7 ∨ v.ownBlock = some k) W X) : RI w0 X B ga gb g7 g8 g9 g10 Aa Ab ca cb a b v' ⟨r, s.at_, out⟩ := by
  obtain ⟨b1, b2, b3, b4, b5, b6, b7⟩ := hb
  have hv : ∀ k, v.ownBlock = some k → B ≤ k := fun k hk => own_ge h.own k hk
  refine ⟨Ch.under h.ch hc ?_, hc.blk h.ba ?_, hc.blk h.bb ?_, h7, ho, h8, hc.blk h.b9 ?_, hc.blk h.b10 ?_⟩
  · rintro k (h | h | h)
    · omega
    · omega
    · have := hv k h; omega
  all_goals
    rintro (h | h | h)
    · omega
    · omega
    · have := hv _ h; omega
theorem RI.setK {g cap : Nat} {l : Reg} {at_ : Nat} {rs : List Reg} {r : Reg} (h : RI w0 W B ga gb g7 g8 g9 g10 Aa Ab ca cb a b (.slice (some ⟨g, 0, none⟩) (rs.length + 1) cap) ⟨l, at_, rs ++ [r]⟩) (hb : Bx w0 B ga gb g7 g8 g9 g10) (k : Int) :
    RI w0 (W.setCell ⟨g, rs.length * 7, none⟩ (.int .i64 k)) B ga gb g7 g8 g9 g10 Aa Ab ca cb a b (.slice (some ⟨g, 0, none⟩) (rs.length + 1) cap) ⟨l, at_, rs ++ [{ r with k := k }]⟩ := by
  obtain ⟨b1, b2, b3, b4, b5, b6, b7⟩ := hb
  have hg : B ≤ g := own_ge h.own g rfl
  have hc := Ch.set1 W g (rs.length * 7) (.int .i64 k)
  refine ⟨Ch.under h.ch hc ?_, hc.blk h.ba ?_, hc.blk h.bb ?_, hc.blk h.b7 ?_, OwnR.setK h.own k, hc.blk h.b8 ?_, hc.blk h.b9 ?_, hc.blk h.b10 ?_⟩
  · intro q hq
    have : q = g := hq
    omega
  all_goals
    intro h
    have h' : _ = g := h
    omega
theorem RI.setAt (h : RI w0 W B ga gb g7 g8 g9 g10 Aa Ab ca cb a b v s) (hb : Bx w0 B ga gb g7 g8 g9 g10) (n : Nat) :
    RI w0 (W.setCell ⟨g10, 0, none⟩ (.int .i64 n)) B ga gb g7 g8 g9 g10 Aa Ab ca cb a b v ⟨s.last, n, s.out⟩ := by
  obtain ⟨b1, b2, b3, b4, b5, b6, b7⟩ := hb
  have hc := Ch.set1 W g10 0 (.int .i64 n)
  have hown : ∀ q, v.ownBlock = some q → ¬ one g10 q := by
    intro q hq hh
    have h1 := own_ge h.own q hq
    have : q = g10 := hh
    omega
  refine ⟨Ch.under h.ch hc ?_, hc.blk h.ba ?_, hc.blk h.bb ?_, hc.blk h.b7 ?_, own_ch h.own hc hown, hc.blk h.b8 ?_, hc.blk h.b9 ?_, bSet h.b10 0 _⟩
  · intro q hq
    have : q = g10 := hq
    omega
  all_goals
    intro h
    have h' : _ = g10 := h
    omega
theorem RI.step (h : RI w0 W B ga gb g7 g8 g9 g10 Aa Ab ca cb a b v s) (hc : Ch no W X) : RI w0 X B ga gb g7 g8 g9 g10 Aa Ab ca cb a b v s :=
  h.keep hc (fun _ h => h.elim) (no_not _) (no_not _) (no_not _) (no_not _) (no_not _) (no_not _) (fun _ _ => no_not _)
end

end Go.Proofs.YtekeiieefkgopaaDoor.Nf
