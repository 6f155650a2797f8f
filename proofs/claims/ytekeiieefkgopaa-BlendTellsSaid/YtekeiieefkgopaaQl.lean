/- The document's answer: what the walk of the regions leans on. -/
import Derived.Test.YtekeiieefkgopaaQj
import Derived.Test.YtekeiieefkgopaaXa
namespace Go.Proofs.Ytekeiieefkgopaa.Ql
open Go.RowKit Go.Proofs.Ytekeiieefkgopaa.Aa Go.Proofs.Ytekeiieefkgopaa.Vw Go.Proofs.Ytekeiieefkgopaa.Ma Go.Proofs.Ytekeiieefkgopaa.Mr Go.Proofs.Ytekeiieefkgopaa.Mb Go.Proofs.Ytekeiieefkgopaa.Mc Go.Proofs.Ytekeiieefkgopaa.Me Go.Proofs.Ytekeiieefkgopaa.Mf Go.Proofs.Ytekeiieefkgopaa.Mg Go.Proofs.Ytekeiieefkgopaa.Mh Go.Proofs.Ytekeiieefkgopaa.Mi Go.Proofs.Ytekeiieefkgopaa.Na Go.Proofs.Ytekeiieefkgopaa.Nb Go.Proofs.Ytekeiieefkgopaa.Nc Go.Proofs.Ytekeiieefkgopaa.Ne Go.Proofs.Ytekeiieefkgopaa.Nf Go.Proofs.Ytekeiieefkgopaa.Pa Go.Proofs.Ytekeiieefkgopaa.Pb Go.Proofs.Ytekeiieefkgopaa.Pc Go.Proofs.Ytekeiieefkgopaa.Pd Go.Proofs.Ytekeiieefkgopaa.Ph Go.Proofs.Ytekeiieefkgopaa.Qm Go.Proofs.Ytekeiieefkgopaa.Qn Go.Proofs.Ytekeiieefkgopaa.Qi Go.Proofs.Ytekeiieefkgopaa.Qj
set_option linter.unusedVariables false
set_option linter.unusedSimpArgs false

theorem found_none {l r es : List EditP} (hes : l ++ r = es) {at_ top : Nat} {first : Int} {from_ : Nat} (h : Qj.Found (left_ es l.length l.length r.length) at_ top es.length first from_) : first = -1 ∧ from_ = top := by
  rcases h.any with e | ⟨k, hk⟩
  · exact ⟨e, (h.none_ e).1⟩
  · obtain ⟨a, b, c, d⟩ := h.some_ k hk
    have : es.length = l.length + r.length := by rw [← hes, List.length_append]
    unfold left_ at c
    rw [if_pos (by omega)] at c
    omega
theorem drop_head {l : List EditP} {p : Nat} {e : EditP} {t : List EditP} (h : l.drop p = e :: t) : l[p]? = some e := by
  have : (l.drop p)[0]? = some e := by rw [h]; rfl
  rwa [List.getElem?_drop, Nat.add_zero] at this
theorem start_has {l r es : List EditP} (hes : l ++ r = es) {p q : Nat} (hp : p ≤ l.length) (hq : q ≤ r.length) (hne : ¬ (p = l.length ∧ q = r.length)) : ∃ j, j < es.length ∧ ¬ Used l.length p q j ∧ atF es j = startAt (l.drop p) (r.drop q) := by
  subst hes
  have key0 : ∀ e t, l.drop p = e :: t → p < (l ++ r).length ∧ ¬ Used l.length p q p ∧ atF (l ++ r) p = e.at_ := by
    intro e t h
    have h0 := drop_head h
    have hlt := (List.getElem?_eq_some_iff.1 h0).1
    refine ⟨by rw [List.length_append]; omega, by unfold Used; omega, (atF_of (e := e) ?_).1⟩
    rw [List.getElem?_append_left hlt]; exact h0
  have key1 : ∀ e t, r.drop q = e :: t → l.length + q < (l ++ r).length ∧ ¬ Used l.length p q (l.length + q) ∧ atF (l ++ r) (l.length + q) = e.at_ := by
    intro e t h
    have h0 := drop_head h
    have hlt := (List.getElem?_eq_some_iff.1 h0).1
    refine ⟨by rw [List.length_append]; omega, by unfold Used; omega, (atF_of (e := e) ?_).1⟩
    rw [List.getElem?_append_right (by omega), Nat.add_sub_cancel_left]; exact h0
  cases hL : l.drop p with
  | nil =>
    cases hR : r.drop q with
    | nil =>
      have h1 := congrArg List.length hL
      have h2 := congrArg List.length hR
      rw [List.length_drop] at h1 h2
      simp at h1 h2
      exact absurd ⟨by omega, by omega⟩ hne
    | cons f R => exact ⟨_, key1 f R hR⟩
  | cons e L =>
    cases hR : r.drop q with
    | nil => exact ⟨_, key0 e L hL⟩
    | cons f R =>
      simp only [startAt]
      split
      · exact ⟨_, key1 f R hR⟩
      · exact ⟨_, key0 e L hL⟩
theorem unused_ge {l r es : List EditP} (hes : l ++ r = es) (hl : Apart l) (hr : Apart r) {p q : Nat} (k : Nat) (hk : k < es.length) (hu : ¬ Used l.length p q k) : startAt (l.drop p) (r.drop q) ≤ atF es k := by
  subst hes
  have hal : Apart (l.drop p) := List.Pairwise.sublist (List.drop_sublist ..) hl
  have har : Apart (r.drop q) := List.Pairwise.sublist (List.drop_sublist ..) hr
  have hst2 := start_le hal har
  have hll : (l ++ r).length = l.length + r.length := List.length_append
  unfold Used at hu
  by_cases hil : k < l.length
  · have e0 : (l ++ r)[k]? = some l[k] := by rw [List.getElem?_append_left hil]; exact List.getElem?_eq_getElem hil
    rw [(atF_of e0).1]
    exact hst2 _ (List.mem_append_left _ (List.mem_of_getElem? (i := k - p) (by rw [List.getElem?_drop, show p + (k - p) = k by omega]; exact List.getElem?_eq_getElem hil)))
  · have hir : k - l.length < r.length := by omega
    have e0 : (l ++ r)[k]? = some r[k - l.length] := by rw [List.getElem?_append_right (by omega)]; exact List.getElem?_eq_getElem hir
    rw [(atF_of e0).1]
    exact hst2 _ (List.mem_append_right _ (List.mem_of_getElem? (i := k - l.length - q) (by rw [List.getElem?_drop, show q + (k - l.length - q) = k - l.length by omega]; exact List.getElem?_eq_getElem hir)))
theorem found_some {l r es : List EditP} (hes : l ++ r = es) (hl : Apart l) (hr : Apart r) {p q : Nat} (hp : p ≤ l.length) (hq : q ≤ r.length) (hne : ¬ (p = l.length ∧ q = r.length)) {at_ top : Nat} {first : Int} {from_ : Nat}
    (hfar : at_ ≤ startAt (l.drop p) (r.drop q)) (hst : startAt (l.drop p) (r.drop q) < top) (h : Qj.Found (left_ es l.length p q) at_ top es.length first from_) :
    ∃ k : Nat, first = k ∧ k < es.length ∧ ¬ Used l.length p q k ∧ atF es k = startAt (l.drop p) (r.drop q) ∧ from_ = startAt (l.drop p) (r.drop q) := by
  obtain ⟨j, hj, hju, hja⟩ := start_has hes hp hq hne
  have hlj : left_ es l.length p q j = (startAt (l.drop p) (r.drop q) : Nat) := by
    unfold left_; unfold Used at hju; rw [if_neg hju]; unfold atI; rw [hja]
  have h1 := h.all j hj
  rw [hlj] at h1
  rcases h.any with e | ⟨k, hk⟩
  · have := (h.none_ e).1; omega
  · obtain ⟨a, b, c, d⟩ := h.some_ k hk
    have hku : ¬ Used l.length p q k := by
      intro hu
      unfold left_ at c; unfold Used at hu
      rw [if_pos hu] at c; omega
    have hb : atF es k = from_ := by
      unfold left_ at b; have hu2 := hku; unfold Used at hu2
      rw [if_neg hu2] at b; unfold atI at b; omega
    have := unused_ge hes hl hr k a hku
    exact ⟨k, hk, a, hku, by omega, by omega⟩

/-- Sizes while a cluster is made. -/
theorem wt_app : ∀ (a b : List EditP), wt (a ++ b) = wt a + wt b
  | [], b => by simp [wt]
  | e :: a, b => by rw [List.cons_append, wt, wt, wt_app a b]; omega
theorem wt_part (l : List EditP) (p n : Nat) : wt ((l.drop p).take n) ≤ wt l := by
  have h1 : wt l = wt (l.take p) + wt (l.drop p) := by rw [← wt_app, List.take_append_drop]
  have h2 : wt (l.drop p) = wt ((l.drop p).take n) + wt ((l.drop p).drop n) := by rw [← wt_app, List.take_append_drop]
  omega
theorem fold0_bnd : ∀ (T : List EditP) (c : Clu), c.m0 - wt T ≤ (T.foldl Clu.add0 c).m0 ∧ (T.foldl Clu.add0 c).m0 ≤ c.m0 + wt T ∧ (T.foldl Clu.add0 c).m1 = c.m1
  | [], c => by simp [wt]
  | e :: T, c => by
    obtain ⟨h1, h2, h3⟩ := fold0_bnd T (Clu.add0 c e)
    rw [List.foldl_cons]
    simp only [wt]
    have e0 : (Clu.add0 c e).m0 = c.m0 + ((e.ins.length : Int) - e.del) := rfl
    have e1 : (Clu.add0 c e).m1 = c.m1 := rfl
    omega
theorem fold1_bnd : ∀ (T : List EditP) (c : Clu), c.m1 - wt T ≤ (T.foldl Clu.add1 c).m1 ∧ (T.foldl Clu.add1 c).m1 ≤ c.m1 + wt T ∧ (T.foldl Clu.add1 c).m0 = c.m0
  | [], c => by simp [wt]
  | e :: T, c => by
    obtain ⟨h1, h2, h3⟩ := fold1_bnd T (Clu.add1 c e)
    rw [List.foldl_cons]
    simp only [wt]
    have e0 : (Clu.add1 c e).m1 = c.m1 + ((e.ins.length : Int) - e.del) := rfl
    have e1 : (Clu.add1 c e).m0 = c.m0 := rfl
    omega
theorem acc_bnd (l r : List EditP) (p q p' q' : Nat) (s : Nat) (i : Nat) (hl : SmallE l) (hr : SmallE r) :
    (-100000000 ≤ (acc l r p q p' q' ⟨s, s, 0, 0, false, false⟩ i).m0 ∧ (acc l r p q p' q' ⟨s, s, 0, 0, false, false⟩ i).m0 ≤ 100000000) ∧ (-100000000 ≤ (acc l r p q p' q' ⟨s, s, 0, 0, false, false⟩ i).m1 ∧ (acc l r p q p' q' ⟨s, s, 0, 0, false, false⟩ i).m1 ≤ 100000000) := by
  unfold acc
  have w0 := wt_part l p (min i p' - p)
  have w1 := wt_part r q (min (i - l.length) q' - q)
  have h0 := fold0_bnd ((l.drop p).take (min i p' - p)) ⟨s, s, 0, 0, false, false⟩
  have h1 := fold1_bnd ((r.drop q).take (min (i - l.length) q' - q)) (((l.drop p).take (min i p' - p)).foldl Clu.add0 ⟨s, s, 0, 0, false, false⟩)
  have := hl.wt
  have := hr.wt
  simp only at h0
  omega
theorem fold_to (f : Clu → EditP → Clu) (hf : ∀ c e, (f c e).to_ = max c.to_ (e.at_ + e.del)) (K : Nat) : ∀ (T : List EditP) (c : Clu), (∀ e ∈ T, e.at_ + e.del ≤ K) → c.to_ ≤ K → (T.foldl f c).to_ ≤ K
  | [], c, _, hc => hc
  | e :: T, c, h, hc => by
    rw [List.foldl_cons]
    refine fold_to f hf K T _ (fun x hx => h x (List.mem_cons_of_mem _ hx)) ?_
    rw [hf]
    have := h e (List.mem_cons_self ..)
    omega
theorem acc_to (l r : List EditP) (p q p' q' : Nat) (s : Nat) (i : Nat) (K : Nat) (hl : ∀ e ∈ l, e.at_ + e.del ≤ K) (hr : ∀ e ∈ r, e.at_ + e.del ≤ K) (hs : s ≤ K) : (acc l r p q p' q' ⟨s, s, 0, 0, false, false⟩ i).to_ ≤ K := by
  unfold acc
  refine fold_to _ (fun _ _ => rfl) K _ _ (fun e he => hr e (List.mem_of_mem_drop (List.mem_of_mem_take he))) ?_
  exact fold_to _ (fun _ _ => rfl) K _ _ (fun e he => hl e (List.mem_of_mem_drop (List.mem_of_mem_take he))) hs

theorem EM.keep {w w' : World} {g c : Nat} {es : List EditP} {A : Nat → Int} (h : EM w g c es A) (hk : ∀ ob, w.heap[g]? = some ob → w'.heap[g]? = some ob) : EM w' g c es A := by
  obtain ⟨cur, hb, h1⟩ := h
  exact ⟨cur, hk _ hb, h1⟩
theorem EM.notOwn {w : World} {B : Nat} {v : Value} {out : List Reg} {g c : Nat} {es : List EditP} {A : Nat → Int} (h : EM w g c es A) (ho : OwnR w B v out) : v.ownBlock ≠ some g := by
  obtain ⟨cur, hb, h1⟩ := h
  exact own_type ho hb (by decide)
theorem RowI.keep {w w' : World} {g n : Nat} {f : Nat → Nat} (h : RowI w g n f) (hk : ∀ ob, w.heap[g]? = some ob → w'.heap[g]? = some ob) : RowI w' g n f := by
  obtain ⟨cur, hb, h1⟩ := h
  exact ⟨cur, hk _ hb, h1⟩
theorem RowI.notOwn {w : World} {B : Nat} {v : Value} {out : List Reg} {g n : Nat} {f : Nat → Nat} (h : RowI w g n f) (ho : OwnR w B v out) : v.ownBlock ≠ some g := by
  obtain ⟨cur, hb, h1⟩ := h
  exact own_type ho hb (by decide)
theorem MM.keep {w0 w w' : World} {B : Nat} {v : Value} {out : List Reg} {A9 : Option Addr} {n : Nat} {f : Nat → Nat} (h : MM w0 w A9 n f) (ho : OwnR w B v out) (hk : ∀ g ob, w.heap[g]? = some ob → v.ownBlock ≠ some g → w'.heap[g]? = some ob) : MM w0 w' A9 n f := by
  rcases h with h | ⟨g, e, hg, h⟩
  · exact .inl h
  · exact .inr ⟨g, e, hg, RowI.keep h (fun ob hob => hk g ob hob (RowI.notOwn h ho))⟩

/-- What stands in memory while a region is made, its own cells at block G. -/
structure Hb (w0 w : World) (es : List EditP) (g8 c8 g9 G : Nat) (A : Nat → Int) (f : Nat → Nat) (v : Value) (out : List Reg) (cs : Array Value) : Prop where
  em : EM w g8 c8 es A
  own : OwnR w w0.heap.size v out
  row : RowI w g9 es.length f
  ch : Ch no w0 w
  box : w.heap[G]? = some (.cells cs 67 (0, 0))
  l8 : g8 < G
  lv : ∀ k, v.ownBlock = some k → k < G
  l9 : g9 < G
  hG : w0.heap.size ≤ G
section
variable {w0 w w' : World} {es : List EditP} {g8 c8 g9 G : Nat} {A : Nat → Int} {f : Nat → Nat} {v : Value} {out : List Reg} {cs : Array Value}
theorem Hb.step (h : Hb w0 w es g8 c8 g9 G A f v out cs) (hc : Ch no w w') : Hb w0 w' es g8 c8 g9 G A f v out cs :=
  ⟨h.em.ch hc (no_not _), own_ch h.own hc (fun _ _ => no_not _), h.row.ch hc (no_not _), h.ch.then_ hc, hc.blk h.box (no_not _), h.l8, h.lv, h.l9, h.hG⟩
theorem Hb.set (h : Hb w0 w es g8 c8 g9 G A f v out cs) (j : Nat) (u : Value) : Hb w0 (w.setCell ⟨G, j, none⟩ u) es g8 c8 g9 G A f v out (cs.setIfInBounds j u) := by
  have hc := Ch.set1 w G j u
  exact ⟨h.em.ch hc (fun e : g8 = G => by have := h.l8; omega), own_ch h.own hc (fun k hk (e : k = G) => by have := h.lv k hk; omega), h.row.ch hc (fun e : g9 = G => by have := h.l9; omega), h.ch.set (p := ⟨G, j, none⟩) (.inr h.hG) _, bSet h.box j u, h.l8, h.lv, h.l9, h.hG⟩
theorem Hb.cell (h : Hb w0 w es g8 c8 g9 G A f v out cs) (j : Nat) (u : Value) (hu : cs[j]? = some u) : w.cell? ⟨G, j, none⟩ = some u := (bCell h.box j).trans hu
theorem Hb.free (h : Hb w0 w es g8 c8 g9 G A f v out cs) (j : Nat) : w.frozen? ⟨G, j, none⟩ = false := bFree h.box j
end
instance (nl p q p' q' i : Nat) : Decidable (Clus nl p q p' q' i) := by unfold Clus; infer_instance
/-- Places while a cluster's edits are struck out, but for its first one. -/
def strk (es : List EditP) (nl p q p' q' k1 i : Nat) : Nat → Int := fun j => if j < i ∧ Clus nl p q p' q' j ∧ j ≠ k1 then -1 else left_ es nl p q j
theorem strk_zero (es : List EditP) (nl p q p' q' k1 j : Nat) : strk es nl p q p' q' k1 0 j = left_ es nl p q j := by unfold strk; rw [if_neg (by omega)]
theorem strk_yes (es : List EditP) (nl p q p' q' k1 i j : Nat) (hc : Clus nl p q p' q' i) (hn : i ≠ k1) : strk es nl p q p' q' k1 (i + 1) j = if j = i then -1 else strk es nl p q p' q' k1 i j := by
  unfold strk
  by_cases e : j = i
  · subst e; rw [if_pos ⟨by omega, hc, hn⟩, if_pos rfl]
  · rw [if_neg e]
    by_cases h : j < i ∧ Clus nl p q p' q' j ∧ j ≠ k1
    · rw [if_pos h, if_pos ⟨by omega, h.2⟩]
    · rw [if_neg h, if_neg (fun h2 => h ⟨by omega, h2.2⟩)]
theorem strk_no (es : List EditP) (nl p q p' q' k1 i j : Nat) (hn : ¬ (Clus nl p q p' q' i ∧ i ≠ k1)) : strk es nl p q p' q' k1 (i + 1) j = strk es nl p q p' q' k1 i j := by
  unfold strk
  by_cases h : j < i ∧ Clus nl p q p' q' j ∧ j ≠ k1
  · rw [if_pos h, if_pos ⟨by omega, h.2⟩]
  · rw [if_neg h, if_neg (fun h2 => ?_)]
    by_cases e : j = i
    · subst e; exact hn h2.2
    · exact h ⟨by omega, h2.2⟩
theorem strk_end (es : List EditP) (nl p q p' q' k1 n j : Nat) (hk : Clus nl p q p' q' k1) (hp : p ≤ p') (hl : p' ≤ nl) (hq : q ≤ q') (hj : j < n) : left_ es nl p' q' j = if j = k1 then -1 else strk es nl p q p' q' k1 n j := by
  have hu : (j < p' ∨ (nl ≤ j ∧ j < nl + q')) ↔ ((j < p ∨ (nl ≤ j ∧ j < nl + q)) ∨ Clus nl p q p' q' j) := by unfold Clus; omega
  by_cases e : j = k1
  · subst e; rw [if_pos rfl]; unfold left_; rw [if_pos (hu.2 (.inr hk))]
  · rw [if_neg e]
    unfold strk
    by_cases hc : Clus nl p q p' q' j
    · rw [if_pos ⟨hj, hc, e⟩]; unfold left_; rw [if_pos (hu.2 (.inr hc))]
    · rw [if_neg (fun h => hc h.2.1)]
      unfold left_
      by_cases h : j < p ∨ (nl ≤ j ∧ j < nl + q)
      · rw [if_pos h, if_pos (hu.2 (.inl h))]
      · rw [if_neg h, if_neg (fun h2 => (hu.1 h2).elim h hc)]
/-- What stands in memory while edits are struck out. -/
structure H4 (w0 w : World) (es : List EditP) (g8 c8 g9 : Nat) (A : Nat → Int) (f : Nat → Nat) (v : Value) (out : List Reg) : Prop where
  em : EM w g8 c8 es A
  own : OwnR w w0.heap.size v out
  row : RowI w g9 es.length f
  ch : Ch no w0 w
  h8 : w0.heap.size ≤ g8
theorem row_em {w : World} {g8 c8 g9 n : Nat} {es : List EditP} {A : Nat → Int} {f : Nat → Nat} (h : EM w g8 c8 es A) (k : RowI w g9 n f) : g9 ≠ g8 := by
  rintro rfl
  obtain ⟨cur, hb, _⟩ := h
  obtain ⟨rc, hc, _⟩ := k
  rw [hb] at hc
  injection hc with hc
  injection hc with _ h2
  exact absurd h2 (by decide)
section
variable {w0 w w' : World} {es : List EditP} {g8 c8 g9 : Nat} {A A' : Nat → Int} {f : Nat → Nat} {v : Value} {out : List Reg}
theorem H4.step (h : H4 w0 w es g8 c8 g9 A f v out) (hc : Ch no w w') : H4 w0 w' es g8 c8 g9 A f v out := ⟨h.em.ch hc (no_not _), own_ch h.own hc (fun _ _ => no_not _), h.row.ch hc (no_not _), h.ch.then_ hc, h.h8⟩
theorem H4.set (h : H4 w0 w es g8 c8 g9 A f v out) (i : Nat) (hi : i < es.length) (x : Int) (hA : ∀ j, j < es.length → A' j = if j = i then x else A j) : H4 w0 (w.setCell ⟨g8, i * 3, none⟩ (.int .i64 x)) es g8 c8 g9 A' f v out := by
  have hc := Ch.set1 w g8 (i * 3) (.int .i64 x)
  exact ⟨EM.set h.em i hi x hA, own_ch h.own hc (fun k hk (e : k = g8) => EM.notOwn h.em h.own (e ▸ hk)), h.row.ch hc (fun e : g9 = g8 => row_em h.em h.row e), h.ch.set (p := ⟨g8, i * 3, none⟩) (.inr h.h8) _, h.h8⟩
theorem H4.eq (h : H4 w0 w es g8 c8 g9 A f v out) (hA : ∀ j, j < es.length → A' j = A j) : H4 w0 w es g8 c8 g9 A' f v out := ⟨EM.eq h.em hA, h.own, h.row, h.ch, h.h8⟩
end
end Go.Proofs.Ytekeiieefkgopaa.Ql
