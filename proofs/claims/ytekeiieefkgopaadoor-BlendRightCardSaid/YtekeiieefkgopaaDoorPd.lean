/- Regions, by lists: all of them. -/
import Derived.Test.YtekeiieefkgopaaDoorPc
namespace Go.Proofs.YtekeiieefkgopaaDoor.Pd
open Go.Proofs.YtekeiieefkgopaaDoor.Mb Go.Proofs.YtekeiieefkgopaaDoor.Mc Go.Proofs.YtekeiieefkgopaaDoor.Mg Go.Proofs.YtekeiieefkgopaaDoor.Mi Go.Proofs.YtekeiieefkgopaaDoor.Na Go.Proofs.YtekeiieefkgopaaDoor.Nb Go.Proofs.YtekeiieefkgopaaDoor.Nc Go.Proofs.YtekeiieefkgopaaDoor.Nf Go.Proofs.YtekeiieefkgopaaDoor.Nh Go.Proofs.YtekeiieefkgopaaDoor.Pa Go.Proofs.YtekeiieefkgopaaDoor.Pb Go.Proofs.YtekeiieefkgopaaDoor.Pc
set_option linter.unusedVariables false
set_option linter.unusedSimpArgs false

theorem J.small {o a b : Ls} {last : Reg} {out : List Reg} {p A B : Nat} {l r : List EditP} (h : J o a b last out p A B l r) (ho : o.length ≤ 100000) (ha : a.length ≤ 100000) (hb : b.length ≤ 100000) : smallR last := by
  have h1 := h.po; have h2 := h.pa; have h3 := h.pb; have q1 := h.g1; have q2 := h.g2; have q3 := h.g3; have w1 := h.lo; have w2 := h.la; have w3 := h.lb
  unfold smallR
  omega
theorem meets_from (p : Nat) (c : Clu) (l r : List EditP) (h : c.from_ = p) : (meets c l r).1.from_ = p := by
  induction c, l, r using meets.induct with
  | case1 c e l hc ih => rw [meets, if_pos hc]; exact ih h
  | case2 c e l hc => rw [meets, if_neg hc]; exact h
  | case3 c e l f r hc ih => rw [meets, if_pos hc]; exact ih h
  | case4 c e l f r hc h2 ih => rw [meets, if_neg hc, if_pos h2]; exact ih h
  | case5 c e l f r hc h2 => rw [meets, if_neg hc, if_neg h2]; exact h
  | case6 c f r hc ih => rw [meets, if_pos hc]; exact ih h
  | case7 c f r hc => rw [meets, if_neg hc]; exact h
  | case8 c => rw [meets]; exact h
/-- One step. -/
theorem step_J {o a b : Ls} {s : RSt} {A B : Nat} {l r : List EditP} (h : J o a b s.last s.out s.at_ A B l r) (hne : ¬ (l = [] ∧ r = []))
    (ho : o.length ≤ 100000) (ha : a.length ≤ 100000) (hb : b.length ≤ 100000) (hl : s.out.length ≤ 1000000) :
    GoodS a b s (firstC l r).1 ∧ (stepS a b s (firstC l r).1).out.length ≤ s.out.length + 2 ∧
    ∃ A' B', J o a b (stepS a b s (firstC l r).1).last (stepS a b s (firstC l r).1).out (stepS a b s (firstC l r).1).at_ A' B' (firstC l r).2.1 (firstC l r).2.2 := by
  obtain ⟨g1, g2, g3⟩ := startAt_far (Scr.far h.sa) (Scr.far h.sb) hne
  have hlo : startAt l r ≤ o.length := by
    have hlo := h.lo
    cases l with
    | nil => cases r with
      | nil => exact absurd ⟨rfl, rfl⟩ hne
      | cons f r => obtain ⟨x1, x2, _⟩ := h.sb; rw [List.length_drop] at x2; simp only [startAt]; omega
    | cons e l => cases r with
      | nil => obtain ⟨x1, x2, _⟩ := h.sa; rw [List.length_drop] at x2; simp only [startAt]; omega
      | cons f r =>
        obtain ⟨x1, x2, _⟩ := h.sa; rw [List.length_drop] at x2
        obtain ⟨y1, y2, _⟩ := h.sb; rw [List.length_drop] at y2
        simp only [startAt]; split <;> omega
  obtain ⟨q, hq⟩ : ∃ q, startAt l r = q := ⟨_, rfl⟩
  have hC : firstC l r = meets ⟨q, q, 0, 0, false, false⟩ l r := by unfold firstC; rw [hq]
  rw [hq] at g1 g2 g3 hlo
  -- the gap
  have hg : ∃ n, q = s.at_ + n := ⟨q - s.at_, by omega⟩
  obtain ⟨n, rfl⟩ := hg
  have hf : (firstC l r).1.from_ = s.at_ + n := by
    rw [hC]
    have := fun (p : Nat) (c : Clu) (h : c.from_ = p) => meets_from p c l r h
    exact this _ _ rfl
  have hH : J o a b (headS s (firstC l r).1).last (headS s (firstC l r).1).out (s.at_ + n) (A + n) (B + n) l r ∧ (headS s (firstC l r).1).out.length ≤ s.out.length + 1 := by
    unfold headS
    rw [hf]
    by_cases hn : n = 0
    · subst hn
      rw [if_neg (by omega)]
      exact ⟨h, by omega⟩
    · rw [if_pos (by omega)]
      unfold gapS
      rw [show ((s.at_ + n : Nat) : Int) - (s.at_ : Int) = (n : Int) from by omega]
      exact ⟨h.gap n hlo g2 g3, by simp⟩
  obtain ⟨hJ, hlen⟩ := hH
  have hd := done_of hJ.sa hJ.sb
  rw [← hC] at hd
  have hJ2 := hJ.clu hd
  have t1 := hd.to1; have t2 := hd.to2; have fr := hd.fr
  rw [List.length_drop] at t2
  obtain ⟨s1, s2, s3, _⟩ := hd.sa
  obtain ⟨z1, z2, z3, _⟩ := hd.sb
  rw [List.length_drop] at s1 s3 z1 z3
  have w1 := h.lo
  have v1 := hJ2.pa; have v2 := hJ2.pb; have v3 := hJ2.g2; have v4 := hJ2.g3; have v5 := hJ2.la; have v6 := hJ2.lb
  refine ⟨⟨by omega, by omega, by omega, J.small h ho ha hb, J.small hJ ho ha hb, by omega, by omega, v3.1, v3.2, ?_, v4.1, v4.2, ?_, by omega⟩, ?_, _, _, hJ2⟩
  · unfold regS; rw [v1]; omega
  · unfold regS; rw [v2]; omega
  · unfold stepS
    simp only [List.length_append, List.length_singleton]
    omega
theorem run_J (o a b : Ls) (ho : o.length ≤ 100000) (ha : a.length ≤ 100000) (hb : b.length ≤ 100000) : ∀ (n : Nat) (l r : List EditP) (s : RSt) (A B : Nat), l.length + r.length ≤ n → J o a b s.last s.out s.at_ A B l r → s.out.length + 2 * n ≤ 1000000 →
    (∀ pre x rest, clus n l r = pre ++ x :: rest → GoodS a b (pre.foldl (stepS a b) s) x) ∧
    (∃ A' B', J o a b ((clus n l r).foldl (stepS a b) s).last ((clus n l r).foldl (stepS a b) s).out ((clus n l r).foldl (stepS a b) s).at_ A' B' [] []) ∧
    ((clus n l r).foldl (stepS a b) s).out.length ≤ s.out.length + 2 * n
  | 0, l, r, s, A, B, hn, hJ, hs => by
    have h1 : l = [] := List.length_eq_zero_iff.1 (by omega)
    have h2 : r = [] := List.length_eq_zero_iff.1 (by omega)
    subst h1 h2
    refine ⟨fun pre x rest h => by simp [clus] at h, ⟨A, B, hJ⟩, by simp [clus]⟩
  | n + 1, l, r, s, A, B, hn, hJ, hs => by
    by_cases h0 : l = [] ∧ r = []
    · have hc : clus (n + 1) l r = [] := by simp [clus, h0]
      rw [hc]
      obtain ⟨rfl, rfl⟩ := h0
      exact ⟨fun pre x rest h => by simp at h, ⟨A, B, hJ⟩, by simp⟩
    · obtain ⟨g1, g2, A', B', g3⟩ := step_J hJ h0 ho ha hb (by omega)
      have hc : clus (n + 1) l r = (firstC l r).1 :: clus n (firstC l r).2.1 (firstC l r).2.2 := by rw [clus, if_neg h0]
      have hlt := firstC_lt l r h0
      obtain ⟨i1, i2, i3⟩ := run_J o a b ho ha hb n (firstC l r).2.1 (firstC l r).2.2 (stepS a b s (firstC l r).1) A' B' (by omega) g3 (by omega)
      rw [hc]
      refine ⟨fun pre x rest h => ?_, i2, ?_⟩
      · cases pre with
        | nil =>
          simp only [List.nil_append, List.cons.injEq] at h
          rw [← h.1]; exact g1
        | cons y pre =>
          simp only [List.cons_append, List.cons.injEq] at h
          rw [List.foldl_cons, ← h.1]
          exact i1 pre x rest h.2
      · rw [List.foldl_cons]; omega

theorem start_J (o a b : Ls) (l r : List EditP) (ha : Scr 0 o a l) (hb : Scr 0 o b r) : J o a b Nf.start.last Nf.start.out Nf.start.at_ 0 0 l r := by
  refine ⟨rfl, rfl, rfl, ⟨by simp [Nf.start], by simp [Nf.start]⟩, ⟨by simp [Nf.start], by simp [Nf.start]⟩, ⟨by simp [Nf.start], by simp [Nf.start]⟩, by simp [Nf.start], by omega, by omega, by simpa [Nf.start] using ha, by simpa [Nf.start] using hb, by simp [Nf.start], by simp [Nf.start], by simp [Nf.start], fun x hx => by simp [Nf.start] at hx⟩

theorem scr_wt : ∀ (es : List EditP) (p : Nat) (x y : Ls), Scr p x y es → wt es ≤ x.length + y.length ∧ ∀ e ∈ es, e.at_ ≤ p + x.length
  | [], p, x, y, h => ⟨by simp [wt], fun e he => by simp at he⟩
  | e :: es, p, x, y, ⟨h1, h2, ys', h3, h4⟩ => by
    obtain ⟨i1, i2⟩ := scr_wt es _ _ _ h4
    rw [List.length_drop] at i1 i2
    have hl := congrArg List.length h3
    simp only [List.length_append, List.length_take] at hl
    refine ⟨by simp only [wt]; omega, fun f hf => ?_⟩
    rcases List.mem_cons.1 hf with rfl | hf
    · omega
    · have := i2 f hf; omega
theorem real_wt : ∀ (es : List EditP), Real es → es.length ≤ wt es
  | [], _ => by simp
  | e :: es, h => by
    have h1 := h e (List.mem_cons_self ..)
    have h2 := real_wt es (fun f hf => h f (List.mem_cons_of_mem _ hf))
    simp only [wt, List.length_cons]; omega
theorem diff_small (a b : Ls) (ha : a.length ≤ 100000) (hb : b.length ≤ 100000) : SmallE (diffOf a b) ∧ (diffOf a b).length ≤ a.length + b.length := by
  obtain ⟨h1, h2, h3⟩ := diff_scr a b
  obtain ⟨w1, w2⟩ := scr_wt _ _ _ _ h1
  have h4 := real_wt _ h3
  exact ⟨⟨fun e he => by have := w2 e he; omega, by omega, by omega⟩, by omega⟩

/-- What all regions are, together. -/
structure AllOk (o a b : Ls) (rs : List Reg) : Prop where
  fo : rs.flatMap (fun r => cutL o r.of r.om) = o
  fa : rs.flatMap (fun r => cutL a r.af r.am) = a
  fb : rs.flatMap (fun r => cutL b r.bf r.bm) = b
  ok : ∀ r ∈ rs, RegOk o a b r
theorem regs_ok (o a b : Ls) (ho : o.length ≤ 10000) (ha : a.length ≤ 10000) (hb : b.length ≤ 10000) :
    AllOk o a b (regionsOf o a b) ∧ (regionsOf o a b).length ≤ 4 * o.length + 2 * a.length + 2 * b.length + 1 ∧
    (∀ pre x r, clusOf (diffOf o a) (diffOf o b) = pre ++ x :: r → GoodS a b (runS a b pre) x) ∧
    ((runS a b (clusOf (diffOf o a) (diffOf o b))).at_ ≤ 1000000 ∧ smallR (runS a b (clusOf (diffOf o a) (diffOf o b))).last ∧ (runS a b (clusOf (diffOf o a) (diffOf o b))).out.length ≤ 900000000) := by
  have d1 := diff_small o a (by omega) (by omega)
  have d2 := diff_small o b (by omega) (by omega)
  obtain ⟨i1, ⟨A, B, i2⟩, i3⟩ := run_J o a b (by omega) (by omega) (by omega) ((diffOf o a).length + (diffOf o b).length) (diffOf o a) (diffOf o b) Nf.start 0 0 (Nat.le_refl _) (start_J o a b _ _ (diff_scr o a).1 (diff_scr o b).1) (by simp [Nf.start]; omega)
  have hs0 : Nf.start.out.length = 0 := rfl
  obtain ⟨s, hs⟩ : ∃ s, runS a b (clusOf (diffOf o a) (diffOf o b)) = s := ⟨_, rfl⟩
  have hs' : (clus ((diffOf o a).length + (diffOf o b).length) (diffOf o a) (diffOf o b)).foldl (stepS a b) Nf.start = s := hs
  rw [hs'] at i2 i3
  have hlo := i2.lo
  refine ⟨?_, ?_, i1, ?_⟩
  · unfold regionsOf
    rw [hs]
    unfold endS
    have fin : ∀ (last : Reg) (out : List Reg) (A B : Nat), J o a b last out o.length A B [] [] → AllOk o a b out := by
      intro last out A B h
      have ea := h.sa; have eb := h.sb
      simp only [Scr, List.drop_length] at ea eb
      have la := congrArg List.length ea; have lb := congrArg List.length eb
      rw [List.length_nil, List.length_drop] at la lb
      have l1 := h.la; have l2 := h.lb
      exact ⟨by rw [h.fo, List.take_length], by rw [h.fa, List.take_of_length_le (by omega)], by rw [h.fb, List.take_of_length_le (by omega)], h.ok⟩
    split
    · unfold gapS
      have hg := i2.gap (o.length - s.at_) (by omega) (fun e he => by simp at he) (fun e he => by simp at he)
      rw [show s.at_ + (o.length - s.at_) = o.length from by omega] at hg
      rw [show (o.length : Int) - (s.at_ : Int) = ((o.length - s.at_ : Nat) : Int) from by omega]
      exact fin _ _ _ _ hg
    · have : s.at_ = o.length := by omega
      rw [this] at i2
      exact fin _ _ _ _ i2
  · unfold regionsOf
    rw [hs]
    unfold endS
    have hl1 := d1.2; have hl2 := d2.2
    split
    · unfold gapS; simp only [List.length_append, List.length_singleton]; omega
    · omega
  · rw [hs]
    exact ⟨by omega, J.small i2 (by omega) (by omega) (by omega), by have := d1.2; have := d2.2; omega⟩

theorem tell_len (o a b : Ls) (r : Reg) (h : FitR o a b r) : (tellR o a b r).length ≤ (cutL o r.of r.om).length + (cutL a r.af r.am).length + (cutL b r.bf r.bm).length + 4 := by
  unfold tellR
  split
  · omega
  · split
    · simp [clashParts]; omega
    · omega
theorem told_len (o a b : Ls) (rs : List Reg) (h : ∀ r ∈ rs, FitR o a b r) : (rs.flatMap (tellR o a b)).length ≤ (rs.flatMap (fun r => cutL o r.of r.om)).length + (rs.flatMap (fun r => cutL a r.af r.am)).length + (rs.flatMap (fun r => cutL b r.bf r.bm)).length + 4 * rs.length := by
  induction rs with
  | nil => simp
  | cons r rs ih =>
    have h1 := tell_len o a b r (h r (List.mem_cons_self ..))
    have h2 := ih (fun x hx => h x (List.mem_cons_of_mem _ hx))
    simp only [List.flatMap_cons, List.length_append, List.length_cons]
    omega
theorem fit_of (o a b : Ls) (ho : o.length ≤ 1000) (ha : a.length ≤ 1000) (hb : b.length ≤ 1000) (so : ∀ x ∈ o, x.size ≤ 9223372036854775806) (sa : ∀ x ∈ a, x.size ≤ 9223372036854775806) (sb : ∀ x ∈ b, x.size ≤ 9223372036854775806) : Fit o a b := by
  obtain ⟨h1, h2, h3, h4⟩ := regs_ok o a b (by omega) (by omega) (by omega)
  have ht := told_len o a b _ (fun r hr => (h1.ok r hr).fit)
  rw [h1.fo, h1.fa, h1.fb] at ht
  exact ⟨by omega, by omega, by omega, so, sa, sb, (diff_small o a (by omega) (by omega)).1, (diff_small o b (by omega) (by omega)).1, h3, h4, fun r hr => (h1.ok r hr).fit, by omega, by omega⟩

end Go.Proofs.YtekeiieefkgopaaDoor.Pd
