/- Merges with the sides changed: plain lists. -/
import Derived.Test.YtekeiieefkgopaaDoorPg
namespace Go.Proofs.YtekeiieefkgopaaDoor.Ph
open Go.Proofs.YtekeiieefkgopaaDoor.Mb Go.Proofs.YtekeiieefkgopaaDoor.Mc Go.Proofs.YtekeiieefkgopaaDoor.Me Go.Proofs.YtekeiieefkgopaaDoor.Mg Go.Proofs.YtekeiieefkgopaaDoor.Mi Go.Proofs.YtekeiieefkgopaaDoor.Na Go.Proofs.YtekeiieefkgopaaDoor.Nb Go.Proofs.YtekeiieefkgopaaDoor.Nc Go.Proofs.YtekeiieefkgopaaDoor.Nf Go.Proofs.YtekeiieefkgopaaDoor.Nh Go.Proofs.YtekeiieefkgopaaDoor.No Go.Proofs.YtekeiieefkgopaaDoor.Np Go.Proofs.YtekeiieefkgopaaDoor.Nq Go.Proofs.YtekeiieefkgopaaDoor.Pa Go.Proofs.YtekeiieefkgopaaDoor.Pb Go.Proofs.YtekeiieefkgopaaDoor.Pc Go.Proofs.YtekeiieefkgopaaDoor.Pd Go.Proofs.YtekeiieefkgopaaDoor.Pg
set_option linter.unusedVariables false
set_option linter.unusedSimpArgs false

theorem add_comm (c : Clu) (e f : EditP) : Clu.add1 (Clu.add0 c e) f = Clu.add0 (Clu.add1 c f) e := by
  simp only [Clu.add0, Clu.add1, Clu.take0, Clu.take1, Clu.mk.injEq, and_true, true_and]
  omega
theorem add0_to (c : Clu) (e : EditP) : c.to_ ≤ (Clu.add0 c e).to_ := by simp only [Clu.add0, Clu.take0]; omega
theorem add1_to (c : Clu) (e : EditP) : c.to_ ≤ (Clu.add1 c e).to_ := by simp only [Clu.add1, Clu.take1]; omega
theorem meets_take0 (c : Clu) (e : EditP) (l r : List EditP) (h : e.at_ ≤ c.to_) : meets c (e :: l) r = meets (Clu.add0 c e) l r := by
  cases r with
  | nil => rw [meets, if_pos h]
  | cons f r => rw [meets, if_pos h]
/-- The other side's edit may as well be taken first. -/
theorem meets_take1 (f : EditP) (r : List EditP) : ∀ (l : List EditP) (c : Clu), f.at_ ≤ c.to_ → meets c l (f :: r) = meets (Clu.add1 c f) l r
  | [], c, h => by rw [meets, if_pos h]
  | e :: l, c, h => by
    by_cases he : e.at_ ≤ c.to_
    · rw [meets, if_pos he, meets_take1 f r l _ (Nat.le_trans h (add0_to c e)), meets_take0 _ _ _ _ (Nat.le_trans he (add1_to c f)), add_comm]
    · rw [meets, if_neg he, if_pos h]
def swapC (c : Clu) : Clu := ⟨c.from_, c.to_, c.m1, c.m0, c.h1, c.h0⟩
theorem swap_add0 (c : Clu) (e : EditP) : Clu.add1 (swapC c) e = swapC (Clu.add0 c e) := rfl
theorem swap_add1 (c : Clu) (e : EditP) : Clu.add0 (swapC c) e = swapC (Clu.add1 c e) := rfl
theorem meets_swap (c : Clu) (l r : List EditP) : meets (swapC c) r l = (swapC (meets c l r).1, (meets c l r).2.2, (meets c l r).2.1) := by
  induction c, l, r using meets.induct with
  | case1 c e l hc ih => rw [meets_take1 e l [] (swapC c) hc, swap_add0, ih, meets_take0 c e l [] hc]
  | case2 c e l hc =>
    have e1 : meets (swapC c) [] (e :: l) = (swapC c, [], e :: l) := by rw [meets, if_neg (show ¬ e.at_ ≤ (swapC c).to_ from hc)]
    have e2 : meets c (e :: l) [] = (c, e :: l, []) := by rw [meets, if_neg hc]
    rw [e1, e2]
  | case3 c e l f r hc ih => rw [meets_take1 e l (f :: r) (swapC c) hc, swap_add0, ih, meets_take0 c e l _ hc]
  | case4 c e l f r hc h2 ih => rw [meets_take0 (swapC c) f r (e :: l) h2, swap_add1, ih, meets_take1 f r (e :: l) c h2]
  | case5 c e l f r hc h2 =>
    have e1 : meets (swapC c) (f :: r) (e :: l) = (swapC c, f :: r, e :: l) := by rw [meets, if_neg (show ¬ f.at_ ≤ (swapC c).to_ from h2), if_neg (show ¬ e.at_ ≤ (swapC c).to_ from hc)]
    have e2 : meets c (e :: l) (f :: r) = (c, e :: l, f :: r) := by rw [meets, if_neg hc, if_neg h2]
    rw [e1, e2]
  | case6 c f r hc ih => rw [meets_take0 (swapC c) f r [] hc, swap_add1, ih, meets_take1 f r [] c hc]
  | case7 c f r hc =>
    have e1 : meets (swapC c) (f :: r) [] = (swapC c, f :: r, []) := by rw [meets, if_neg (show ¬ f.at_ ≤ (swapC c).to_ from hc)]
    have e2 : meets c [] (f :: r) = (c, [], f :: r) := by rw [meets, if_neg hc]
    rw [e1, e2]
  | case8 c =>
    have e1 : ∀ c : Clu, meets c [] [] = (c, [], []) := fun c => by rw [meets]
    rw [e1, e1]
theorem start_swap (l r : List EditP) : startAt r l = startAt l r := by
  cases l with
  | nil => cases r <;> rfl
  | cons e l =>
    cases r with
    | nil => rfl
    | cons f r => simp only [startAt]; split <;> split <;> omega
theorem first_swap (l r : List EditP) : firstC r l = (swapC (firstC l r).1, (firstC l r).2.2, (firstC l r).2.1) := by
  unfold firstC
  rw [start_swap]
  exact meets_swap ⟨startAt l r, startAt l r, 0, 0, false, false⟩ l r
theorem clus_swap : ∀ (n : Nat) (l r : List EditP), clus n r l = (clus n l r).map swapC
  | 0, l, r => rfl
  | n + 1, l, r => by
    unfold clus
    by_cases h : l = [] ∧ r = []
    · rw [if_pos h, if_pos ⟨h.2, h.1⟩]; rfl
    · rw [if_neg h, if_neg (fun h2 => h ⟨h2.2, h2.1⟩), first_swap]
      simp only [List.map_cons]
      rw [clus_swap n]
/-- A cluster has edits. -/
def Has (c : Clu) : Prop := ¬ (c.h0 = false ∧ c.h1 = false)
theorem meets_has (c : Clu) (l r : List EditP) (h : Has c) : Has (meets c l r).1 := by
  induction c, l, r using meets.induct with
  | case1 c e l hc ih => rw [meets, if_pos hc]; exact ih (fun h => by simp [Clu.add0, Clu.take0] at h)
  | case2 c e l hc => rw [meets, if_neg hc]; exact h
  | case3 c e l f r hc ih => rw [meets, if_pos hc]; exact ih (fun h => by simp [Clu.add0, Clu.take0] at h)
  | case4 c e l f r hc h2 ih => rw [meets, if_neg hc, if_pos h2]; exact ih (fun h => by simp [Clu.add1, Clu.take1] at h)
  | case5 c e l f r hc h2 => rw [meets, if_neg hc, if_neg h2]; exact h
  | case6 c f r hc ih => rw [meets, if_pos hc]; exact ih (fun h => by simp [Clu.add1, Clu.take1] at h)
  | case7 c f r hc => rw [meets, if_neg hc]; exact h
  | case8 c => rw [meets]; exact h
theorem first_has (l r : List EditP) (h : ¬ (l = [] ∧ r = [])) : Has (firstC l r).1 := by
  unfold firstC
  cases l with
  | nil =>
    cases r with
    | nil => exact absurd ⟨rfl, rfl⟩ h
    | cons f r => rw [meets, if_pos (by simp [startAt])]; exact meets_has _ _ _ (fun h => by simp [Clu.add1, Clu.take1] at h)
  | cons e l =>
    cases r with
    | nil => rw [meets, if_pos (by simp [startAt])]; exact meets_has _ _ _ (fun h => by simp [Clu.add0, Clu.take0] at h)
    | cons f r =>
      rw [meets]
      split
      · exact meets_has _ _ _ (fun h => by simp [Clu.add0, Clu.take0] at h)
      · rename_i hn
        rw [if_pos (by simp only [startAt] at hn ⊢; split at hn <;> simp_all)]
        exact meets_has _ _ _ (fun h => by simp [Clu.add1, Clu.take1] at h)
theorem clus_has : ∀ (n : Nat) (l r : List EditP), ∀ c ∈ clus n l r, Has c
  | 0, l, r, c, hc => by simp [clus] at hc
  | n + 1, l, r, c, hc => by
    unfold clus at hc
    split at hc
    · simp at hc
    · rename_i h
      rcases List.mem_cons.1 hc with rfl | hc
      · exact first_has l r h
      · exact clus_has n _ _ c hc

def swapK (k : Int) : Int := if k = 1 then 2 else if k = 2 then 1 else k
theorem swapK4 (k : Int) : swapK k = 4 ↔ k = 4 := by
  unfold swapK
  split
  · omega
  · split <;> omega
def swapR (r : Reg) : Reg := ⟨swapK r.k, r.of, r.om, r.bf, r.bm, r.af, r.am⟩
def swapS (s : RSt) : RSt := ⟨swapR s.last, s.at_, s.out.map swapR⟩
theorem next_swap (r : Reg) (n m0 m1 : Int) : nextR (swapR r) n m1 m0 = swapR (nextR r n m0 m1) := by simp [nextR, swapR, swapK]
theorem gap_swap (s : RSt) (n : Int) : gapS (swapS s) n = swapS (gapS s n) := by
  unfold gapS swapS
  simp only [next_swap, List.map_append, List.map_cons, List.map_nil]
theorem head_swap (s : RSt) (c : Clu) : headS (swapS s) (swapC c) = swapS (headS s c) := by
  unfold headS
  have e1 : (swapS s).at_ = s.at_ := rfl
  have e2 : (swapC c).from_ = c.from_ := rfl
  rw [e1, e2]
  split
  · exact gap_swap s _
  · rfl
theorem reg_swap (s : RSt) (c : Clu) : regS (swapS s) (swapC c) = swapR (regS s c) := by
  unfold regS
  rw [head_swap]
  exact next_swap (headS s c).last _ _ _
theorem kind_swap (a b : Ls) (s : RSt) (c : Clu) (h : Has c) : kindS b a (swapS s) (swapC c) = swapK (kindS a b s c) := by
  unfold kindS
  rw [reg_swap]
  show kindOf (swapC c) (cutL b (regS s c).bf (regS s c).bm) (cutL a (regS s c).af (regS s c).am) = _
  unfold kindOf
  have e1 : (swapC c).h1 = c.h0 := rfl
  have e2 : (swapC c).h0 = c.h1 := rfl
  rw [e1, e2]
  cases h0 : c.h0 <;> cases h1 : c.h1
  · exact absurd ⟨h0, h1⟩ h
  · simp [swapK]
  · simp [swapK]
  · simp only [Bool.true_eq_false, if_false]
    by_cases he : cutL a (regS s c).af (regS s c).am = cutL b (regS s c).bf (regS s c).bm
    · rw [if_pos he, if_pos he.symm]; simp [swapK]
    · rw [if_neg he, if_neg (fun h => he h.symm)]; simp [swapK]
theorem step_swap (a b : Ls) (s : RSt) (c : Clu) (h : Has c) : stepS b a (swapS s) (swapC c) = swapS (stepS a b s c) := by
  unfold stepS
  rw [kind_swap a b s c h, reg_swap, head_swap]
  show RSt.mk _ _ _ = RSt.mk _ _ _
  simp only [swapS, List.map_append, List.map_cons, List.map_nil, RSt.mk.injEq, List.append_cancel_left_eq, List.cons.injEq, and_true, true_and]
  refine ⟨rfl, rfl⟩
theorem run_swap (a b : Ls) : ∀ (cs : List Clu) (s : RSt), (∀ c ∈ cs, Has c) → (cs.map swapC).foldl (stepS b a) (swapS s) = swapS (cs.foldl (stepS a b) s)
  | [], s, _ => rfl
  | c :: cs, s, h => by
    rw [List.map_cons, List.foldl_cons, List.foldl_cons, step_swap a b s c (h c (List.mem_cons_self ..))]
    exact run_swap a b cs _ (fun x hx => h x (List.mem_cons_of_mem _ hx))
theorem end_swap (s : RSt) (n : Nat) : endS (swapS s) n = swapS (endS s n) := by
  unfold endS
  have e1 : (swapS s).at_ = s.at_ := rfl
  rw [e1]
  split
  · exact gap_swap s _
  · rfl
theorem regs_swap (o a b : Ls) : regionsOf o b a = (regionsOf o a b).map swapR := by
  unfold regionsOf runS clusOf
  rw [Nat.add_comm (diffOf o b).length, clus_swap]
  have hs : Nf.start = swapS Nf.start := rfl
  have h := run_swap a b (clus ((diffOf o a).length + (diffOf o b).length) (diffOf o a) (diffOf o b)) Nf.start (clus_has _ _ _)
  rw [← hs] at h
  rw [h, end_swap]
  rfl
theorem clash_swap (o a b : Ls) : clashN (regionsOf o b a) = clashN (regionsOf o a b) := by
  rw [regs_swap]
  unfold clashN
  rw [List.filter_map, List.length_map]
  congr 2
  funext r
  show decide (swapK r.k = 4) = decide (r.k = 4)
  rw [decide_eq_decide]
  exact swapK4 r.k
theorem tellA {o a b : Ls} {r : Reg} (h2 : r.k ≠ 2) (h4 : r.k ≠ 4) : tellR o a b r = cutL a r.af r.am := by unfold tellR; rw [if_neg h2, if_neg h4]
theorem tellB {o a b : Ls} {r : Reg} (h2 : r.k = 2) : tellR o a b r = cutL b r.bf r.bm := by unfold tellR; rw [if_pos h2]
theorem merge_swap (o a b : Ls) (ho : o.length ≤ 10000) (ha : a.length ≤ 10000) (hb : b.length ≤ 10000) (h : clashN (regionsOf o a b) = 0) : mergeL o b a = mergeL o a b := by
  obtain ⟨h1, _⟩ := regs_ok o a b ho ha hb
  unfold mergeL
  rw [regs_swap, List.flatMap_map]
  refine fm_congr (fun r hr => ?_)
  have hk4 : r.k ≠ 4 := by
    intro hk
    unfold clashN at h
    rw [List.length_eq_zero_iff, List.filter_eq_nil_iff] at h
    exact h r hr (by simp [isClash, hk])
  have hok := h1.ok r hr
  rcases hok.fit.k with k | k | k | k | k
  · have := hok.k0 k
    have hs : (swapR r).k = 0 := by show swapK r.k = 0; rw [k]; rfl
    rw [tellA (by rw [hs]; decide) (by rw [hs]; decide), tellA (by rw [k]; decide) (by rw [k]; decide)]
    show cutL b r.bf r.bm = _
    rw [← this.1, ← this.2]
  · have hs : (swapR r).k = 2 := by show swapK r.k = 2; rw [k]; rfl
    rw [tellB hs, tellA (by rw [k]; decide) (by rw [k]; decide)]
    rfl
  · have hs : (swapR r).k = 1 := by show swapK r.k = 1; rw [k]; rfl
    rw [tellA (by rw [hs]; decide) (by rw [hs]; decide), tellB k]
    rfl
  · have := hok.k3 k
    have hs : (swapR r).k = 3 := by show swapK r.k = 3; rw [k]; rfl
    rw [tellA (by rw [hs]; decide) (by rw [hs]; decide), tellA (by rw [k]; decide) (by rw [k]; decide)]
    exact this.symm
  · exact absurd k hk4

theorem less_tri : ∀ (x y : List UInt8), Op.bytesLess x y = false → Op.bytesLess y x = false → x = y
  | [], [], _, _ => rfl
  | [], b :: y, h, _ => by simp [Op.bytesLess] at h
  | a :: x, [], _, h => by simp [Op.bytesLess] at h
  | a :: x, b :: y, h1, h2 => by
    simp only [Op.bytesLess, Bool.or_eq_false_iff, decide_eq_false_iff_not, Bool.and_eq_false_iff, beq_eq_false_iff_ne] at h1 h2
    have hab : a = b := by
      have q1 := h1.1; have q2 := h2.1
      rw [UInt8.lt_iff_toNat_lt] at q1 q2
      exact UInt8.toNat_inj.1 (by omega)
    subst hab
    rw [less_tri x y (by rcases h1.2 with h | h; exact absurd rfl h; exact h) (by rcases h2.2 with h | h; exact absurd rfl h; exact h)]
theorem less_asym : ∀ (x y : List UInt8), Op.bytesLess x y = true → Op.bytesLess y x = false
  | [], [], h => by simp [Op.bytesLess] at h
  | [], b :: y, h => by simp [Op.bytesLess]
  | a :: x, [], h => by simp [Op.bytesLess] at h
  | a :: x, b :: y, h => by
    simp only [Op.bytesLess, Bool.or_eq_true, decide_eq_true_eq, Bool.and_eq_true, beq_iff_eq] at h
    simp only [Op.bytesLess, Bool.or_eq_false_iff, decide_eq_false_iff_not, Bool.and_eq_false_iff, beq_eq_false_iff_ne]
    rcases h with h | ⟨rfl, h⟩
    · rw [UInt8.lt_iff_toNat_lt] at h
      refine ⟨by rw [UInt8.lt_iff_toNat_lt]; omega, .inl (fun e => by subst e; omega)⟩
    · refine ⟨by rw [UInt8.lt_iff_toNat_lt]; omega, .inr (less_asym x y h)⟩
theorem max_swap (a b : ByteArray) : maxS a b = maxS b a := by
  unfold maxS
  cases h1 : Op.bytesLess a.toList b.toList
  · cases h2 : Op.bytesLess b.toList a.toList
    · have := less_tri _ _ h1 h2
      simp only [Bool.false_eq_true, if_false]
      rw [ByteArray.toList_eq, ByteArray.toList_eq] at this
      exact ByteArray.ext (Array.toList_inj.1 this)
    · simp
  · rw [less_asym _ _ h1]; simp
theorem text_swap (o a b : ByteArray) (ho : o.size ≤ 1000) (ha : a.size ≤ 1000) (hb : b.size ≤ 1000) : (textOf o b a).2 = (textOf o a b).2 ∧ ((textOf o a b).2 = 0 → (textOf o b a).1 = (textOf o a b).1) := by
  unfold textOf
  by_cases h1 : a = b
  · subst h1; rw [if_pos (.inl rfl)]; exact ⟨rfl, fun _ => rfl⟩
  · by_cases h2 : b = o
    · rw [if_pos (.inr h2 : a = b ∨ b = o), if_neg (by rintro (h | h); exact h1 h.symm; exact h1 (h.trans h2.symm)), if_pos h2]
      exact ⟨rfl, fun _ => rfl⟩
    · by_cases h3 : a = o
      · rw [if_neg (by rintro (h | h); exact h1 h; exact h2 h : ¬ (a = b ∨ b = o)), if_pos h3, if_pos (.inr h3 : b = a ∨ a = o)]
        exact ⟨rfl, fun _ => rfl⟩
      · rw [if_neg (by rintro (h | h); exact h1 h; exact h2 h : ¬ (a = b ∨ b = o)), if_neg h3, if_neg (by rintro (h | h); exact h1 h.symm; exact h3 h : ¬ (b = a ∨ a = o)), if_neg h2]
        have hb2 : (binB o || binB b || binB a) = (binB o || binB a || binB b) := by cases binB o <;> cases binB a <;> cases binB b <;> rfl
        rw [hb2]
        by_cases h4 : (binB o || binB a || binB b) = true
        · rw [if_pos h4, if_pos h4]
          exact ⟨rfl, fun _ => max_swap b a⟩
        · rw [if_neg h4, if_neg h4]
          have lo := split_len o.size o; have la := split_len a.size a; have lb := split_len b.size b
          refine ⟨clash_swap _ _ _, fun h => ?_⟩
          show joinS _ = joinS _
          rw [merge_swap _ _ _ (by unfold splitS; omega) (by unfold splitS; omega) (by unfold splitS; omega) h]

end Go.Proofs.YtekeiieefkgopaaDoor.Ph
