/- The document's answer: two lists of edits behind one another; the state of the clusters' walk. -/
import Derived.Test.YtekeiieefkgopaaQh
import Derived.Test.YtekeiieefkgopaaQi
namespace Go.Proofs.Ytekeiieefkgopaa.Qj
open Go.RowKit Go.Proofs.Ytekeiieefkgopaa.Aa Go.Proofs.Ytekeiieefkgopaa.Vw Go.Proofs.Ytekeiieefkgopaa.Ma Go.Proofs.Ytekeiieefkgopaa.Mr Go.Proofs.Ytekeiieefkgopaa.Mb Go.Proofs.Ytekeiieefkgopaa.Mc Go.Proofs.Ytekeiieefkgopaa.Me Go.Proofs.Ytekeiieefkgopaa.Mf Go.Proofs.Ytekeiieefkgopaa.Mg Go.Proofs.Ytekeiieefkgopaa.Mh Go.Proofs.Ytekeiieefkgopaa.Mi Go.Proofs.Ytekeiieefkgopaa.Na Go.Proofs.Ytekeiieefkgopaa.Nb Go.Proofs.Ytekeiieefkgopaa.Nc Go.Proofs.Ytekeiieefkgopaa.Pa Go.Proofs.Ytekeiieefkgopaa.Ph Go.Proofs.Ytekeiieefkgopaa.Qm Go.Proofs.Ytekeiieefkgopaa.Qn Go.Proofs.Ytekeiieefkgopaa.Qi
set_option linter.unusedVariables false
set_option linter.unusedSimpArgs false

/-- Cells that hold edits. -/
def Cells3 (xs : List Value) (es : List EditP) : Prop := xs.length = es.length * 3 ∧ ∀ i e, es[i]? = some e → xs[i * 3]? = some (.int .i64 (e.at_ : Nat)) ∧ xs[i * 3 + 1]? = some (.int .i64 (e.del : Nat)) ∧ ∃ A c, xs[i * 3 + 2]? = some (.slice A e.ins.length c)
theorem Cells3.nil : Cells3 [] [] := ⟨rfl, fun i e h => by simp at h⟩
theorem Cells3.append {xs ys : List Value} {es fs : List EditP} (h : Cells3 xs es) (k : Cells3 ys fs) : Cells3 (xs ++ ys) (es ++ fs) := by
  refine ⟨by rw [List.length_append, List.length_append, h.1, k.1]; omega, fun i e hi => ?_⟩
  by_cases hl : i < es.length
  · rw [List.getElem?_append_left hl] at hi
    obtain ⟨a, b, A, c, d⟩ := h.2 i e hi
    have := h.1
    exact ⟨by rw [List.getElem?_append_left (by omega)]; exact a, by rw [List.getElem?_append_left (by omega)]; exact b, A, c, by rw [List.getElem?_append_left (by omega)]; exact d⟩
  · rw [List.getElem?_append_right (by omega)] at hi
    obtain ⟨a, b, A, c, d⟩ := k.2 _ e hi
    have := h.1
    exact ⟨by rw [List.getElem?_append_right (by omega), show i * 3 - xs.length = (i - es.length) * 3 by omega]; exact a, by rw [List.getElem?_append_right (by omega), show i * 3 + 1 - xs.length = (i - es.length) * 3 + 1 by omega]; exact b, A, c, by rw [List.getElem?_append_right (by omega), show i * 3 + 2 - xs.length = (i - es.length) * 3 + 2 by omega]; exact d⟩
/-- What edits of the call's own are, as cells. -/
theorem EB.cells {w : World} {B g cap : Nat} {es : List EditP} {svs : Nat → Value} (h : EB w B g cap es svs) : ∃ xs, Cells3 xs es ∧ (∀ j u, xs[j]? = some u → w.cell? ((⟨g, 0, none⟩ : Addr).add j) = some u) ∧ ∀ u ∈ xs, u.oneCell' = true := by
  obtain ⟨cur, hb, hs, hc⟩ := h.blk
  have hcl : cur.toList.length = cap * 3 := by rw [Array.length_toList]; exact hs
  have hle := Nat.mul_le_mul_right 3 h.le
  have hx : ∀ j, j < es.length * 3 → (cur.toList.take (es.length * 3))[j]? = cur[j]? := fun j hj => by rw [List.getElem?_take, if_pos hj, Array.getElem?_toList]
  have hsv : ∀ i e, es[i]? = some e → ∃ A c, svs i = .slice A e.ins.length c := fun i e he => by
    obtain ⟨A, c, h1, _⟩ := El.Row.of_own (h.own i e he)
    exact ⟨A, c, h1⟩
  refine ⟨cur.toList.take (es.length * 3), ⟨by rw [List.length_take, hcl]; omega, fun i e he => ?_⟩, fun j u hj => ?_, fun u hu => ?_⟩
  · have hi := (List.getElem?_eq_some_iff.1 he).1
    obtain ⟨a, b, d⟩ := hc i e he
    obtain ⟨A, c, hA⟩ := hsv i e he
    exact ⟨by rw [hx _ (by omega)]; exact a, by rw [hx _ (by omega)]; exact b, A, c, by rw [hx _ (by omega), d, hA]⟩
  · rw [List.getElem?_take] at hj
    split at hj
    · have e : (⟨g, 0, none⟩ : Addr).add j = ⟨g, j, none⟩ := by cases j <;> simp [Addr.add]
      rw [e, bCell hb j, ← hj, Array.getElem?_toList]
    · cases hj
  · obtain ⟨j, hj⟩ := List.getElem?_of_mem hu
    have hjl : j < es.length * 3 := by
      have := (List.getElem?_eq_some_iff.1 hj).1
      rw [List.length_take] at this; omega
    rw [hx j hjl] at hj
    have hq : j / 3 < es.length := by omega
    obtain ⟨a, b, d⟩ := hc (j / 3) _ (List.getElem?_eq_getElem hq)
    obtain ⟨A, c, hA⟩ := hsv (j / 3) _ (List.getElem?_eq_getElem hq)
    have h3 : j % 3 = 0 ∨ j % 3 = 1 ∨ j % 3 = 2 := by omega
    rcases h3 with h3 | h3 | h3
    · rw [show j = j / 3 * 3 by omega, a] at hj; injection hj with hj; subst hj; rfl
    · rw [show j = j / 3 * 3 + 1 by omega, b] at hj; injection hj with hj; subst hj; rfl
    · rw [show j = j / 3 * 3 + 2 by omega, d, hA] at hj; injection hj with hj; subst hj; rfl
/-- append(v, edits...), v the call's own. -/
theorem app_eo {W : World} {ops : Array Oper} {rest : List Oper} {o : Oper} {a : Act} {Q : Exit → Act → World → Prop} (hgd : o.guard = none) (s x : Operand)
    (ho : o.op = .call { callee := .builtin .append, args := #[s, x], argTypes := #[76, 76] })
    (B : Nat) (v : Value) (n : Nat) (xs : List Value) (hs : a.eval s = v) (hown : W.ownsRow B 81 3 v n xs) (B' : Nat) (u : Value) (es : List EditP) (hu : EO W B' u es) (hx : a.eval x = u) (hlen : n + es.length ≤ 2000000) (hB : B ≤ W.heap.size)
    (hK : ∀ v' w' cs, w'.ownsRow B 81 3 v' (n + es.length) (xs ++ cs) → Cells3 cs es → W.grownBy w' v.ownBlock → (v ≠ .slice none 0 0 → v' ≠ .slice none 0 0) → wpList Try.prog ops Q rest (a.put o.dst v') w') :
    wpList Try.prog ops Q (o :: rest) a W := by
  obtain ⟨i0, hi, hz0, hz1, hz2⟩ := info_parts infoEdit
  rcases hu with ⟨rfl, rfl⟩ | ⟨g, cap, svs, rfl, hb⟩
  · refine wpList_append_own_none hgd s x 76 ho B 81 i0 3 Try.underlying76 hi v n xs hs hown hx ?_
    exact hK v W [] (by simpa using hown) Cells3.nil ⟨rfl, rfl, rfl, Nat.le_refl _, fun _ _ _ => rfl⟩ (fun h => h)
  · obtain ⟨cs, hc1, hc2, hc3⟩ := EB.cells hb
    refine wpList_append_own W hgd s x 76 ho B 81 i0 _ 3 40 Try.underlying76 hi hz0 hz1 hz2 rfl (by omega) v n xs hs hown ⟨g, 0, none⟩ es.length cap cs hx hc1.1 hc2 hc3 (by unfold maxLen; omega) (by omega) hB ?_
    intro v' w' h1 h2 h3
    exact hK v' w' cs h1 hc1 h2 (fun hv hv' => hv (h3.1 hv').1)
theorem em_of {w : World} {B : Nat} {v : Value} {xs : List Value} {es : List EditP} (h : w.ownsRow B 81 3 v es.length xs) (hc : Cells3 xs es) (hne : v ≠ .slice none 0 0) :
    ∃ g c, v = .slice (some ⟨g, 0, none⟩) es.length c ∧ B ≤ g ∧ EM w g c es (atI es) := by
  obtain ⟨hl, ⟨hv, _⟩ | ⟨g, cap, cur, rfl, hb, hg, hn, hcm, hs, ht⟩⟩ := h
  · exact absurd hv hne
  · have hx : ∀ j u, xs[j]? = some u → cur[j]? = some u := fun j u hj => by
      rw [← ht, List.getElem?_take] at hj
      split at hj
      · rwa [Array.getElem?_toList] at hj
      · cases hj
    refine ⟨g, cap, rfl, hb, cur, hg, hs, hn, fun i e he => ?_⟩
    obtain ⟨a, b, A, c, d⟩ := hc.2 i e he
    refine ⟨?_, hx _ _ b, A, c, hx _ _ d⟩
    rw [hx _ _ a]; unfold atI; rw [(atF_of he).1]
theorem EM.set {w : World} {g c : Nat} {es : List EditP} {A A' : Nat → Int} (h : EM w g c es A) (i : Nat) (hi : i < es.length) (x : Int) (hA : ∀ j, j < es.length → A' j = if j = i then x else A j) : EM (w.setCell ⟨g, i * 3, none⟩ (.int .i64 x)) g c es A' := by
  obtain ⟨cur, hb, h1, h2, h3⟩ := h
  refine ⟨cur.setIfInBounds (i * 3) (.int .i64 x), bSet hb _ _, by simpa using h1, h2, fun j e he => ?_⟩
  obtain ⟨a, b, Av, cv, d⟩ := h3 j e he
  have hj := (List.getElem?_eq_some_iff.1 he).1
  refine ⟨?_, by rw [Array.getElem?_setIfInBounds_ne (by omega)]; exact b, Av, cv, by rw [Array.getElem?_setIfInBounds_ne (by omega)]; exact d⟩
  rw [hA j hj]
  by_cases e : j = i
  · subst e
    rw [Array.getElem?_setIfInBounds_self_of_lt (by omega), if_pos rfl]
  · rw [Array.getElem?_setIfInBounds_ne (by omega), if_neg e]; exact a
theorem EM.eq {w : World} {g c : Nat} {es : List EditP} {A A' : Nat → Int} (h : EM w g c es A) (hA : ∀ j, j < es.length → A' j = A j) : EM w g c es A' := by
  obtain ⟨cur, hb, h1, h2, h3⟩ := h
  exact ⟨cur, hb, h1, h2, fun j e he => by rw [hA j (List.getElem?_eq_some_iff.1 he).1]; exact h3 j e he⟩

/-- Places, those taken being -1. -/
def left_ (es : List EditP) (nl p q : Nat) : Nat → Int := fun i => if i < p ∨ (nl ≤ i ∧ i < nl + q) then -1 else atI es i
/-- What was found, among so many, at or behind a place. -/
structure Found (A : Nat → Int) (at_ top : Nat) (i : Nat) (first : Int) (from_ : Nat) : Prop where
  none_ : first = -1 → from_ = top ∧ ∀ j, j < i → A j < at_ ∨ (top : Int) ≤ A j
  some_ : ∀ k : Nat, first = k → k < i ∧ A k = from_ ∧ (at_ : Int) ≤ A k ∧ from_ < top
  any : first = -1 ∨ ∃ k : Nat, first = k
  all : ∀ j, j < i → A j < at_ ∨ (from_ : Int) ≤ A j
  le : from_ ≤ top
theorem Found.start (A : Nat → Int) (at_ top : Nat) : Found A at_ top 0 (-1) top := ⟨fun _ => ⟨rfl, fun j hj => by omega⟩, fun k hk => by omega, .inl rfl, fun j hj => by omega, Nat.le_refl _⟩
theorem Found.yes {A : Nat → Int} {at_ top i from_ x : Nat} {first : Int} (h : Found A at_ top i first from_) (hx : A i = x) (h1 : at_ ≤ x) (h2 : x < from_) : Found A at_ top (i + 1) (i : Nat) x := by
  refine ⟨fun e => by omega, fun k hk => ?_, .inr ⟨i, rfl⟩, fun j hj => ?_, ?_⟩
  · have : k = i := by omega
    subst this
    exact ⟨by omega, hx, by omega, by have := h.le; omega⟩
  · by_cases e : j = i
    · subst e; right; omega
    · rcases h.all j (by omega) with h3 | h3
      · exact .inl h3
      · right; omega
  · have := h.le; omega
theorem Found.no {A : Nat → Int} {at_ top i from_ : Nat} {first : Int} (h : Found A at_ top i first from_) (hx : A i < at_ ∨ (from_ : Int) ≤ A i) : Found A at_ top (i + 1) first from_ := by
  refine ⟨fun e => ⟨(h.none_ e).1, fun j hj => ?_⟩, fun k hk => ?_, h.any, fun j hj => ?_, h.le⟩
  · by_cases e2 : j = i
    · subst e2; have := (h.none_ e).1; rcases hx with hx | hx
      · exact .inl hx
      · right; omega
    · exact (h.none_ e).2 j (by omega)
  · obtain ⟨a, b, c, d⟩ := h.some_ k hk; exact ⟨by omega, b, c, d⟩
  · by_cases e2 : j = i
    · subst e2; exact hx
    · exact h.all j (by omega)

/-- A cluster in the making, its first so many edits looked at. -/
def acc (l r : List EditP) (p q p' q' : Nat) (c0 : Clu) (i : Nat) : Clu := ((r.drop q).take (min (i - l.length) q' - q)).foldl Clu.add1 (((l.drop p).take (min i p' - p)).foldl Clu.add0 c0)
theorem acc_zero (l r : List EditP) (p q p' q' : Nat) (c0 : Clu) : acc l r p q p' q' c0 0 = c0 := by simp [acc]
theorem acc_no (l r : List EditP) (p q p' q' : Nat) (c0 : Clu) (i : Nat) (hp : p' ≤ l.length) (h : ¬ Clus l.length p q p' q' i) : acc l r p q p' q' c0 (i + 1) = acc l r p q p' q' c0 i := by
  unfold Clus at h
  unfold acc
  rw [show min (i + 1) p' - p = min i p' - p by omega, show min (i + 1 - l.length) q' - q = min (i - l.length) q' - q by omega]
theorem fold_snoc {α β : Type} (f : β → α → β) (b : β) (l : List α) (x : α) : (l ++ [x]).foldl f b = f (l.foldl f b) x := by simp
theorem acc_left (l r : List EditP) (p q p' q' : Nat) (c0 : Clu) (i : Nat) (hp : p' ≤ l.length) (h : Clus l.length p q p' q' i) (hi : i < l.length) : acc l r p q p' q' c0 (i + 1) = Clu.add0 (acc l r p q p' q' c0 i) l[i] := by
  unfold Clus at h
  unfold acc
  rw [show min (i + 1 - l.length) q' - q = 0 by omega, show min (i - l.length) q' - q = 0 by omega, List.take_zero, List.foldl_nil, List.foldl_nil, show min (i + 1) p' - p = (i - p) + 1 by omega, show min i p' - p = i - p by omega,
    List.take_succ_eq_append_getElem (by rw [List.length_drop]; omega), fold_snoc, List.getElem_drop]
  congr 2
  omega
theorem acc_right (l r : List EditP) (p q p' q' : Nat) (c0 : Clu) (i : Nat) (hp : p' ≤ l.length) (hq : q' ≤ r.length) (h : Clus l.length p q p' q' i) (hi : l.length ≤ i) (hr : i - l.length < r.length) : acc l r p q p' q' c0 (i + 1) = Clu.add1 (acc l r p q p' q' c0 i) r[i - l.length] := by
  unfold Clus at h
  unfold acc
  rw [show min (i + 1) p' - p = min i p' - p by omega, show min (i + 1 - l.length) q' - q = (i - l.length - q) + 1 by omega, show min (i - l.length) q' - q = i - l.length - q by omega,
    List.take_succ_eq_append_getElem (by rw [List.length_drop]; omega), fold_snoc, List.getElem_drop]
  congr 2
  omega
theorem acc_all {l r : List EditP} {p q p' q' : Nat} {c : Clu} (h : Round l r p q p' q' c) : acc l r p q p' q' ⟨startAt (l.drop p) (r.drop q), startAt (l.drop p) (r.drop q), 0, 0, false, false⟩ (l ++ r).length = c := by
  have h1 := h.pl
  have h2 := h.ql
  unfold acc
  rw [List.length_append, show min (l.length + r.length) p' - p = p' - p by omega, show min (l.length + r.length - l.length) q' - q = q' - q by omega]
  exact h.fold.symm
end Go.Proofs.Ytekeiieefkgopaa.Qj
