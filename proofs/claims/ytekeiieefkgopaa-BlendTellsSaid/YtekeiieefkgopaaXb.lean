/- Merges where one side alone changed, or both alike; merges with the sides changed: plain lists. Merges with the sides changed: plain lists. Trees together: plain lists. -/
import Derived.Test.YtekeiieefkgopaaXa
import Derived.Test.YtekeiieefkgopaaXe
namespace Go.Proofs.Ytekeiieefkgopaa.Pg
open Go.Proofs.Ytekeiieefkgopaa.Mb Go.Proofs.Ytekeiieefkgopaa.Mc Go.Proofs.Ytekeiieefkgopaa.Me Go.Proofs.Ytekeiieefkgopaa.Mg Go.Proofs.Ytekeiieefkgopaa.Mi Go.Proofs.Ytekeiieefkgopaa.Na Go.Proofs.Ytekeiieefkgopaa.Nb Go.Proofs.Ytekeiieefkgopaa.Nc Go.Proofs.Ytekeiieefkgopaa.Nf Go.Proofs.Ytekeiieefkgopaa.Nh Go.Proofs.Ytekeiieefkgopaa.No Go.Proofs.Ytekeiieefkgopaa.Np Go.Proofs.Ytekeiieefkgopaa.Nq Go.Proofs.Ytekeiieefkgopaa.Pa Go.Proofs.Ytekeiieefkgopaa.Pb Go.Proofs.Ytekeiieefkgopaa.Pc Go.Proofs.Ytekeiieefkgopaa.Pd
set_option linter.unusedVariables false
set_option linter.unusedSimpArgs false

theorem diff_self (l : Ls) : diffOf l l = [] := by
  have hf : frontN l l = l.length := by
    have h := firstNot_spec (sameAt l l) (min l.length l.length)
    unfold frontN
    rcases Nat.lt_or_ge (firstNot (sameAt l l) (min l.length l.length)) (min l.length l.length) with h1 | h1
    · have := h.2.2 h1
      simp [sameAt] at this
    · omega
  unfold diffOf
  rw [hf]
  simp [midDiff]

/-- All clusters are such. -/
theorem meets_h1 (c : Clu) (l : List EditP) (h : c.h1 = false) : (meets c l []).1.h1 = false ∧ (meets c l []).2.2 = [] := by
  induction l generalizing c with
  | nil => rw [meets]; exact ⟨h, rfl⟩
  | cons e l ih =>
    rw [meets]
    split
    · exact ih _ h
    · exact ⟨h, rfl⟩
theorem clus_left : ∀ (n : Nat) (l : List EditP), ∀ c ∈ clus n l [], c.h1 = false
  | 0, l, c, hc => by simp [clus] at hc
  | n + 1, l, c, hc => by
    unfold clus at hc
    split at hc
    · simp at hc
    · have h := meets_h1 ⟨startAt l [], startAt l [], 0, 0, false, false⟩ l rfl
      have e : firstC l [] = meets ⟨startAt l [], startAt l [], 0, 0, false, false⟩ l [] := rfl
      rcases List.mem_cons.1 hc with rfl | hc
      · exact h.1
      · rw [e, h.2] at hc
        exact clus_left n _ c hc
theorem meets_h0 (c : Clu) (r : List EditP) (h : c.h0 = false) (h1 : c.h1 = true) : (meets c [] r).1.h0 = false ∧ (meets c [] r).1.h1 = true ∧ (meets c [] r).2.1 = [] := by
  induction r generalizing c with
  | nil => rw [meets]; exact ⟨h, h1, rfl⟩
  | cons e l ih =>
    rw [meets]
    split
    · exact ih _ h rfl
    · exact ⟨h, h1, rfl⟩
theorem clus_right : ∀ (n : Nat) (r : List EditP), ∀ c ∈ clus n [] r, c.h0 = false ∧ c.h1 = true
  | 0, l, c, hc => by simp [clus] at hc
  | n + 1, [], c, hc => by simp [clus] at hc
  | n + 1, f :: r, c, hc => by
    unfold clus at hc
    split at hc
    · simp at hc
    · have e : firstC [] (f :: r) = meets (Clu.add1 ⟨f.at_, f.at_, 0, 0, false, false⟩ f) [] r := by
        unfold firstC
        rw [meets, if_pos (by simp [startAt])]
        rfl
      have h := meets_h0 (Clu.add1 ⟨f.at_, f.at_, 0, 0, false, false⟩ f) r rfl rfl
      rcases List.mem_cons.1 hc with rfl | hc
      · rw [e]; exact ⟨h.1, h.2.1⟩
      · rw [e, h.2.2] at hc
        exact clus_right n _ c hc
/-- Both sides alike: each edit, of both. -/
theorem firstC_both (e : EditP) (l : List EditP) (h : Apart (e :: l)) : ∃ c, firstC (e :: l) (e :: l) = (c, l, l) ∧ c.h0 = true ∧ c.h1 = true ∧ c.m0 = c.m1 := by
  have hs : startAt (e :: l) (e :: l) = e.at_ := by simp [startAt]
  unfold firstC
  rw [hs, meets, if_pos (Nat.le_refl _)]
  obtain ⟨c1, hc1⟩ : ∃ c, Clu.add0 ⟨e.at_, e.at_, 0, 0, false, false⟩ e = c := ⟨_, rfl⟩
  have t1 : c1.to_ = e.at_ + e.del := by rw [← hc1]; simp only [Clu.add0, Clu.take0]; omega
  have m1 : c1.m0 = (e.ins.length : Int) - e.del ∧ c1.m1 = 0 ∧ c1.h0 = true := by rw [← hc1]; simp [Clu.add0, Clu.take0]
  rw [hc1]
  obtain ⟨c2, hc2⟩ : ∃ c, Clu.add1 c1 e = c := ⟨_, rfl⟩
  have t2 : c2.to_ = e.at_ + e.del := by rw [← hc2]; simp only [Clu.add1, Clu.take1]; omega
  have m2 : c2.m0 = (e.ins.length : Int) - e.del ∧ c2.m1 = (e.ins.length : Int) - e.del ∧ c2.h0 = true ∧ c2.h1 = true := by rw [← hc2]; simp [Clu.add1, Clu.take1, m1]
  refine ⟨c2, ?_, m2.2.2.1, m2.2.2.2, by rw [m2.1, m2.2.1]⟩
  cases l with
  | nil => rw [meets, if_pos (by omega), hc2, meets]
  | cons f l =>
    have hlt : e.at_ + e.del < f.at_ := (List.pairwise_cons.1 h).1 f (List.mem_cons_self ..)
    rw [meets, if_neg (by omega), if_pos (by omega), hc2, meets, if_neg (by omega), if_neg (by omega)]
theorem clus_both : ∀ (n : Nat) (l : List EditP), Apart l → ∀ c ∈ clus n l l, c.h0 = true ∧ c.h1 = true ∧ c.m0 = c.m1
  | 0, l, _, c, hc => by simp [clus] at hc
  | n + 1, [], _, c, hc => by simp [clus] at hc
  | n + 1, e :: l, ha, c, hc => by
    obtain ⟨c', h1, h2⟩ := firstC_both e l ha
    unfold clus at hc
    split at hc
    · simp at hc
    · rw [h1] at hc
      rcases List.mem_cons.1 hc with rfl | hc
      · exact h2
      · exact clus_both n l (List.pairwise_cons.1 ha).2 c hc

theorem head_out (s : RSt) (c : Clu) (K : Int → Prop) (h0 : K 0) (h : ∀ r ∈ s.out, K r.k) : ∀ r ∈ (headS s c).out, K r.k := by
  unfold headS
  split
  · intro r hr
    unfold gapS at hr
    rcases List.mem_append.1 hr with hr | hr
    · exact h r hr
    · rw [List.mem_singleton.1 hr]; exact h0
  · exact h
theorem run_kind (a b : Ls) (K : Int → Prop) (h0 : K 0) (C : Clu → Prop) (hC : ∀ c, C c → ∀ s, K (kindS a b s c)) : ∀ (cs : List Clu) (s : RSt), (∀ c ∈ cs, C c) → (∀ r ∈ s.out, K r.k) → ∀ r ∈ (cs.foldl (stepS a b) s).out, K r.k
  | [], s, _, h => h
  | c :: cs, s, hc, h => by
    rw [List.foldl_cons]
    refine run_kind a b K h0 C hC cs _ (fun x hx => hc x (List.mem_cons_of_mem _ hx)) (fun r hr => ?_)
    unfold stepS at hr
    rcases List.mem_append.1 hr with hr | hr
    · exact head_out s c K h0 h r hr
    · rw [List.mem_singleton.1 hr]; exact hC c (hc c (List.mem_cons_self ..)) s
theorem end_kind (K : Int → Prop) (h0 : K 0) (s : RSt) (n : Nat) (h : ∀ r ∈ s.out, K r.k) : ∀ r ∈ (endS s n).out, K r.k := by
  unfold endS
  split
  · intro r hr
    unfold gapS at hr
    rcases List.mem_append.1 hr with hr | hr
    · exact h r hr
    · rw [List.mem_singleton.1 hr]; exact h0
  · exact h
theorem regs_kind (o a b : Ls) (K : Int → Prop) (h0 : K 0) (C : Clu → Prop) (hC : ∀ c, C c → ∀ s, K (kindS a b s c)) (hc : ∀ c ∈ clusOf (diffOf o a) (diffOf o b), C c) : ∀ r ∈ regionsOf o a b, K r.k :=
  end_kind K h0 _ _ (run_kind a b K h0 C hC _ Nf.start hc (fun r hr => by simp [Nf.start] at hr))
theorem fm_congr {α β : Type} {f g : α → List β} : ∀ {l : List α}, (∀ x ∈ l, f x = g x) → l.flatMap f = l.flatMap g
  | [], _ => rfl
  | x :: l, h => by rw [List.flatMap_cons, List.flatMap_cons, h x (List.mem_cons_self ..), fm_congr (fun y hy => h y (List.mem_cons_of_mem _ hy))]
theorem no_clash {rs : List Reg} (h : ∀ r ∈ rs, r.k ≠ 4) : clashN rs = 0 := by
  unfold clashN
  rw [List.length_eq_zero_iff, List.filter_eq_nil_iff]
  intro r hr
  simp [isClash, h r hr]

theorem one_left (l m : Ls) (hl : l.length ≤ 10000) (hm : m.length ≤ 10000) : mergeL l m l = m ∧ clashN (regionsOf l m l) = 0 := by
  have hk := regs_kind l m l (fun k => k = 0 ∨ k = 1) (.inl rfl) (fun c => c.h1 = false) (fun c hc s => .inr (by unfold kindS kindOf; rw [if_pos hc]))
    (by unfold clusOf; rw [diff_self]; exact clus_left _ _)
  obtain ⟨h1, _⟩ := regs_ok l m l hl hm hl
  refine ⟨?_, no_clash (fun r hr => by have := hk r hr; omega)⟩
  unfold mergeL
  rw [fm_congr (g := fun r => cutL m r.af r.am), h1.fa]
  intro r hr
  have := hk r hr
  unfold tellR
  rw [if_neg (by omega), if_neg (by omega)]
theorem one_right (l m : Ls) (hl : l.length ≤ 10000) (hm : m.length ≤ 10000) : mergeL l l m = m ∧ clashN (regionsOf l l m) = 0 := by
  have hk := regs_kind l l m (fun k => k = 0 ∨ k = 2) (.inl rfl) (fun c => c.h0 = false ∧ c.h1 = true) (fun c hc s => .inr (by unfold kindS kindOf; rw [if_neg (by rw [hc.2]; simp), if_pos hc.1]))
    (by unfold clusOf; rw [diff_self]; exact clus_right _ _)
  obtain ⟨h1, _⟩ := regs_ok l l m hl hl hm
  refine ⟨?_, no_clash (fun r hr => by have := hk r hr; omega)⟩
  unfold mergeL
  rw [fm_congr (g := fun r => cutL m r.bf r.bm), h1.fb]
  intro r hr
  have hr2 := h1.ok r hr
  unfold tellR
  rcases hk r hr with h | h
  · rw [if_neg (by omega), if_neg (by omega)]
    have := hr2.k0 h
    rw [← this.1, this.2]
  · rw [if_pos h]

/-- Both sides alike: the regions are. -/
def Ev (r : Reg) : Prop := r.af = r.bf ∧ r.am = r.bm
theorem run_both (m : Ls) : ∀ (cs : List Clu) (s : RSt), (∀ c ∈ cs, c.h0 = true ∧ c.h1 = true ∧ c.m0 = c.m1) → Ev s.last → (∀ r ∈ s.out, r.k = 0 ∨ r.k = 3) → (∀ r ∈ (cs.foldl (stepS m m) s).out, r.k = 0 ∨ r.k = 3)
  | [], s, _, _, h => h
  | c :: cs, s, hc, he, h => by
    rw [List.foldl_cons]
    have hcc := hc c (List.mem_cons_self ..)
    have hh : Ev (headS s c).last := by
      unfold headS
      split
      · have h1 := he.1; have h2 := he.2
        exact ⟨by simp only [gapS, nextR]; omega, by simp only [gapS, nextR]⟩
      · exact he
    have hr : Ev (regS s c) := by
      have h1 := hh.1; have h2 := hh.2; have h3 := hcc.2.2
      exact ⟨by simp only [regS, nextR]; omega, by simp only [regS, nextR]; omega⟩
    refine run_both m cs _ (fun x hx => hc x (List.mem_cons_of_mem _ hx)) hr (fun r hr2 => ?_)
    unfold stepS at hr2
    rcases List.mem_append.1 hr2 with hr2 | hr2
    · exact head_out s c (fun k => k = 0 ∨ k = 3) (.inl rfl) h r hr2
    · rw [List.mem_singleton.1 hr2]
      right
      show kindS m m s c = 3
      unfold kindS kindOf
      rw [if_neg (by rw [hcc.2.1]; simp), if_neg (by rw [hcc.1]; simp), if_pos (by rw [hr.1, hr.2])]
theorem one_both (l m : Ls) (hl : l.length ≤ 10000) (hm : m.length ≤ 10000) : mergeL l m m = m ∧ clashN (regionsOf l m m) = 0 := by
  have hk : ∀ r ∈ regionsOf l m m, r.k = 0 ∨ r.k = 3 :=
    end_kind (fun k => k = 0 ∨ k = 3) (.inl rfl) _ _ (run_both m _ Nf.start (clus_both _ _ (diff_scr l m).2.1) ⟨rfl, rfl⟩ (fun r hr => by simp [Nf.start] at hr))
  obtain ⟨h1, _⟩ := regs_ok l m m hl hm hm
  refine ⟨?_, no_clash (fun r hr => by have := hk r hr; omega)⟩
  unfold mergeL
  rw [fm_congr (g := fun r => cutL m r.af r.am), h1.fa]
  intro r hr
  have := hk r hr
  unfold tellR
  rw [if_neg (by omega), if_neg (by omega)]

end Go.Proofs.Ytekeiieefkgopaa.Pg
namespace Go.Proofs.Ytekeiieefkgopaa.Ph
open Go.Proofs.Ytekeiieefkgopaa.Mb Go.Proofs.Ytekeiieefkgopaa.Mc Go.Proofs.Ytekeiieefkgopaa.Me Go.Proofs.Ytekeiieefkgopaa.Mg Go.Proofs.Ytekeiieefkgopaa.Mi Go.Proofs.Ytekeiieefkgopaa.Na Go.Proofs.Ytekeiieefkgopaa.Nb Go.Proofs.Ytekeiieefkgopaa.Nc Go.Proofs.Ytekeiieefkgopaa.Nf Go.Proofs.Ytekeiieefkgopaa.Nh Go.Proofs.Ytekeiieefkgopaa.No Go.Proofs.Ytekeiieefkgopaa.Np Go.Proofs.Ytekeiieefkgopaa.Nq Go.Proofs.Ytekeiieefkgopaa.Pa Go.Proofs.Ytekeiieefkgopaa.Pb Go.Proofs.Ytekeiieefkgopaa.Pc Go.Proofs.Ytekeiieefkgopaa.Pd Go.Proofs.Ytekeiieefkgopaa.Pg
set_option linter.unusedVariables false
set_option linter.unusedSimpArgs false

theorem add_comm (c : Clu) (e f : EditP) : Clu.add1 (Clu.add0 c e) f = Clu.add0 (Clu.add1 c f) e := by
  simp only [Clu.add0, Clu.add1, Clu.take0, Clu.take1, Clu.mk.injEq, and_true, true_and]
  omega
theorem add0_to (c : Clu) (e : EditP) : c.to_ ≤ (Clu.add0 c e).to_ := by simp only [Clu.add0, Clu.take0]; omega
theorem add1_to (c : Clu) (e : EditP) : c.to_ ≤ (Clu.add1 c e).to_ := by simp only [Clu.add1, Clu.take1]; omega
theorem meets_take0 (c : Clu) (e : EditP) (l r : List EditP) (h : e.at_ ≤ c.to_) : meets c (e :: l) r = meets (Clu.add0 c e) l r := by
  cases r with
  | nil => rw [meets, if_pos h]
  | cons f r => rw [meets, if_pos h]
/-- The other side's edit may as well be taken first. -/
theorem meets_take1 (f : EditP) (r : List EditP) : ∀ (l : List EditP) (c : Clu), f.at_ ≤ c.to_ → meets c l (f :: r) = meets (Clu.add1 c f) l r
  | [], c, h => by rw [meets, if_pos h]
  | e :: l, c, h => by
    by_cases he : e.at_ ≤ c.to_
    · rw [meets, if_pos he, meets_take1 f r l _ (Nat.le_trans h (add0_to c e)), meets_take0 _ _ _ _ (Nat.le_trans he (add1_to c f)), add_comm]
    · rw [meets, if_neg he, if_pos h]
def swapC (c : Clu) : Clu := ⟨c.from_, c.to_, c.m1, c.m0, c.h1, c.h0⟩
theorem swap_add0 (c : Clu) (e : EditP) : Clu.add1 (swapC c) e = swapC (Clu.add0 c e) := rfl
theorem swap_add1 (c : Clu) (e : EditP) : Clu.add0 (swapC c) e = swapC (Clu.add1 c e) := rfl
theorem meets_swap (c : Clu) (l r : List EditP) : meets (swapC c) r l = (swapC (meets c l r).1, (meets c l r).2.2, (meets c l r).2.1) := by
  induction c, l, r using meets.induct with
  | case1 c e l hc ih => rw [meets_take1 e l [] (swapC c) hc, swap_add0, ih, meets_take0 c e l [] hc]
  | case2 c e l hc =>
    have e1 : meets (swapC c) [] (e :: l) = (swapC c, [], e :: l) := by rw [meets, if_neg (show ¬ e.at_ ≤ (swapC c).to_ from hc)]
    have e2 : meets c (e :: l) [] = (c, e :: l, []) := by rw [meets, if_neg hc]
    rw [e1, e2]
  | case3 c e l f r hc ih => rw [meets_take1 e l (f :: r) (swapC c) hc, swap_add0, ih, meets_take0 c e l _ hc]
  | case4 c e l f r hc h2 ih => rw [meets_take0 (swapC c) f r (e :: l) h2, swap_add1, ih, meets_take1 f r (e :: l) c h2]
  | case5 c e l f r hc h2 =>
    have e1 : meets (swapC c) (f :: r) (e :: l) = (swapC c, f :: r, e :: l) := by rw [meets, if_neg (show ¬ f.at_ ≤ (swapC c).to_ from h2), if_neg (show ¬ e.at_ ≤ (swapC c).to_ from hc)]
    have e2 : meets c (e :: l) (f :: r) = (c, e :: l, f :: r) := by rw [meets, if_neg hc, if_neg h2]
    rw [e1, e2]
  | case6 c f r hc ih => rw [meets_take0 (swapC c) f r [] hc, swap_add1, ih, meets_take1 f r [] c hc]
  | case7 c f r hc =>
    have e1 : meets (swapC c) (f :: r) [] = (swapC c, f :: r, []) := by rw [meets, if_neg (show ¬ f.at_ ≤ (swapC c).to_ from hc)]
    have e2 : meets c [] (f :: r) = (c, [], f :: r) := by rw [meets, if_neg hc]
    rw [e1, e2]
  | case8 c =>
    have e1 : ∀ c : Clu, meets c [] [] = (c, [], []) := fun c => by rw [meets]
    rw [e1, e1]
theorem start_swap (l r : List EditP) : startAt r l = startAt l r := by
  cases l with
  | nil => cases r <;> rfl
  | cons e l =>
    cases r with
    | nil => rfl
    | cons f r => simp only [startAt]; split <;> split <;> omega
theorem first_swap (l r : List EditP) : firstC r l = (swapC (firstC l r).1, (firstC l r).2.2, (firstC l r).2.1) := by
  unfold firstC
  rw [start_swap]
  exact meets_swap ⟨startAt l r, startAt l r, 0, 0, false, false⟩ l r
theorem clus_swap : ∀ (n : Nat) (l r : List EditP), clus n r l = (clus n l r).map swapC
  | 0, l, r => rfl
  | n + 1, l, r => by
    unfold clus
    by_cases h : l = [] ∧ r = []
    · rw [if_pos h, if_pos ⟨h.2, h.1⟩]; rfl
    · rw [if_neg h, if_neg (fun h2 => h ⟨h2.2, h2.1⟩), first_swap]
      simp only [List.map_cons]
      rw [clus_swap n]
/-- A cluster has edits. -/
def Has (c : Clu) : Prop := ¬ (c.h0 = false ∧ c.h1 = false)
theorem meets_has (c : Clu) (l r : List EditP) (h : Has c) : Has (meets c l r).1 := by
  induction c, l, r using meets.induct with
  | case1 c e l hc ih => rw [meets, if_pos hc]; exact ih (fun h => by simp [Clu.add0, Clu.take0] at h)
  | case2 c e l hc => rw [meets, if_neg hc]; exact h
  | case3 c e l f r hc ih => rw [meets, if_pos hc]; exact ih (fun h => by simp [Clu.add0, Clu.take0] at h)
  | case4 c e l f r hc h2 ih => rw [meets, if_neg hc, if_pos h2]; exact ih (fun h => by simp [Clu.add1, Clu.take1] at h)
  | case5 c e l f r hc h2 => rw [meets, if_neg hc, if_neg h2]; exact h
  | case6 c f r hc ih => rw [meets, if_pos hc]; exact ih (fun h => by simp [Clu.add1, Clu.take1] at h)
  | case7 c f r hc => rw [meets, if_neg hc]; exact h
  | case8 c => rw [meets]; exact h
theorem first_has (l r : List EditP) (h : ¬ (l = [] ∧ r = [])) : Has (firstC l r).1 := by
  unfold firstC
  cases l with
  | nil =>
    cases r with
    | nil => exact absurd ⟨rfl, rfl⟩ h
    | cons f r => rw [meets, if_pos (by simp [startAt])]; exact meets_has _ _ _ (fun h => by simp [Clu.add1, Clu.take1] at h)
  | cons e l =>
    cases r with
    | nil => rw [meets, if_pos (by simp [startAt])]; exact meets_has _ _ _ (fun h => by simp [Clu.add0, Clu.take0] at h)
    | cons f r =>
      rw [meets]
      split
      · exact meets_has _ _ _ (fun h => by simp [Clu.add0, Clu.take0] at h)
      · rename_i hn
        rw [if_pos (by simp only [startAt] at hn ⊢; split at hn <;> simp_all)]
        exact meets_has _ _ _ (fun h => by simp [Clu.add1, Clu.take1] at h)
theorem clus_has : ∀ (n : Nat) (l r : List EditP), ∀ c ∈ clus n l r, Has c
  | 0, l, r, c, hc => by simp [clus] at hc
  | n + 1, l, r, c, hc => by
    unfold clus at hc
    split at hc
    · simp at hc
    · rename_i h
      rcases List.mem_cons.1 hc with rfl | hc
      · exact first_has l r h
      · exact clus_has n _ _ c hc

def swapK (k : Int) : Int := if k = 1 then 2 else if k = 2 then 1 else k
theorem swapK4 (k : Int) : swapK k = 4 ↔ k = 4 := by
  unfold swapK
  split
  · omega
  · split <;> omega
def swapR (r : Reg) : Reg := ⟨swapK r.k, r.of, r.om, r.bf, r.bm, r.af, r.am⟩
def swapS (s : RSt) : RSt := ⟨swapR s.last, s.at_, s.out.map swapR⟩
theorem next_swap (r : Reg) (n m0 m1 : Int) : nextR (swapR r) n m1 m0 = swapR (nextR r n m0 m1) := by simp [nextR, swapR, swapK]
theorem gap_swap (s : RSt) (n : Int) : gapS (swapS s) n = swapS (gapS s n) := by
  unfold gapS swapS
  simp only [next_swap, List.map_append, List.map_cons, List.map_nil]
theorem head_swap (s : RSt) (c : Clu) : headS (swapS s) (swapC c) = swapS (headS s c) := by
  unfold headS
  have e1 : (swapS s).at_ = s.at_ := rfl
  have e2 : (swapC c).from_ = c.from_ := rfl
  rw [e1, e2]
  split
  · exact gap_swap s _
  · rfl
theorem reg_swap (s : RSt) (c : Clu) : regS (swapS s) (swapC c) = swapR (regS s c) := by
  unfold regS
  rw [head_swap]
  exact next_swap (headS s c).last _ _ _
theorem kind_swap (a b : Ls) (s : RSt) (c : Clu) (h : Has c) : kindS b a (swapS s) (swapC c) = swapK (kindS a b s c) := by
  unfold kindS
  rw [reg_swap]
  show kindOf (swapC c) (cutL b (regS s c).bf (regS s c).bm) (cutL a (regS s c).af (regS s c).am) = _
  unfold kindOf
  have e1 : (swapC c).h1 = c.h0 := rfl
  have e2 : (swapC c).h0 = c.h1 := rfl
  rw [e1, e2]
  cases h0 : c.h0 <;> cases h1 : c.h1
  · exact absurd ⟨h0, h1⟩ h
  · simp [swapK]
  · simp [swapK]
  · simp only [Bool.true_eq_false, if_false]
    by_cases he : cutL a (regS s c).af (regS s c).am = cutL b (regS s c).bf (regS s c).bm
    · rw [if_pos he, if_pos he.symm]; simp [swapK]
    · rw [if_neg he, if_neg (fun h => he h.symm)]; simp [swapK]
theorem step_swap (a b : Ls) (s : RSt) (c : Clu) (h : Has c) : stepS b a (swapS s) (swapC c) = swapS (stepS a b s c) := by
  unfold stepS
  rw [kind_swap a b s c h, reg_swap, head_swap]
  show RSt.mk _ _ _ = RSt.mk _ _ _
  simp only [swapS, List.map_append, List.map_cons, List.map_nil, RSt.mk.injEq, List.append_cancel_left_eq, List.cons.injEq, and_true, true_and]
  refine ⟨rfl, rfl⟩
theorem run_swap (a b : Ls) : ∀ (cs : List Clu) (s : RSt), (∀ c ∈ cs, Has c) → (cs.map swapC).foldl (stepS b a) (swapS s) = swapS (cs.foldl (stepS a b) s)
  | [], s, _ => rfl
  | c :: cs, s, h => by
    rw [List.map_cons, List.foldl_cons, List.foldl_cons, step_swap a b s c (h c (List.mem_cons_self ..))]
    exact run_swap a b cs _ (fun x hx => h x (List.mem_cons_of_mem _ hx))
theorem end_swap (s : RSt) (n : Nat) : endS (swapS s) n = swapS (endS s n) := by
  unfold endS
  have e1 : (swapS s).at_ = s.at_ := rfl
  rw [e1]
  split
  · exact gap_swap s _
  · rfl
theorem regs_swap (o a b : Ls) : regionsOf o b a = (regionsOf o a b).map swapR := by
  unfold regionsOf runS clusOf
  rw [Nat.add_comm (diffOf o b).length, clus_swap]
  have hs : Nf.start = swapS Nf.start := rfl
  have h := run_swap a b (clus ((diffOf o a).length + (diffOf o b).length) (diffOf o a) (diffOf o b)) Nf.start (clus_has _ _ _)
  rw [← hs] at h
  rw [h, end_swap]
  rfl
theorem clash_swap (o a b : Ls) : clashN (regionsOf o b a) = clashN (regionsOf o a b) := by
  rw [regs_swap]
  unfold clashN
  rw [List.filter_map, List.length_map]
  congr 2
  funext r
  show decide (swapK r.k = 4) = decide (r.k = 4)
  rw [decide_eq_decide]
  exact swapK4 r.k
theorem tellA {o a b : Ls} {r : Reg} (h2 : r.k ≠ 2) (h4 : r.k ≠ 4) : tellR o a b r = cutL a r.af r.am := by unfold tellR; rw [if_neg h2, if_neg h4]
theorem tellB {o a b : Ls} {r : Reg} (h2 : r.k = 2) : tellR o a b r = cutL b r.bf r.bm := by unfold tellR; rw [if_pos h2]
theorem merge_swap (o a b : Ls) (ho : o.length ≤ 10000) (ha : a.length ≤ 10000) (hb : b.length ≤ 10000) (h : clashN (regionsOf o a b) = 0) : mergeL o b a = mergeL o a b := by
  obtain ⟨h1, _⟩ := regs_ok o a b ho ha hb
  unfold mergeL
  rw [regs_swap, List.flatMap_map]
  refine fm_congr (fun r hr => ?_)
  have hk4 : r.k ≠ 4 := by
    intro hk
    unfold clashN at h
    rw [List.length_eq_zero_iff, List.filter_eq_nil_iff] at h
    exact h r hr (by simp [isClash, hk])
  have hok := h1.ok r hr
  rcases hok.fit.k with k | k | k | k | k
  · have := hok.k0 k
    have hs : (swapR r).k = 0 := by show swapK r.k = 0; rw [k]; rfl
    rw [tellA (by rw [hs]; decide) (by rw [hs]; decide), tellA (by rw [k]; decide) (by rw [k]; decide)]
    show cutL b r.bf r.bm = _
    rw [← this.1, ← this.2]
  · have hs : (swapR r).k = 2 := by show swapK r.k = 2; rw [k]; rfl
    rw [tellB hs, tellA (by rw [k]; decide) (by rw [k]; decide)]
    rfl
  · have hs : (swapR r).k = 1 := by show swapK r.k = 1; rw [k]; rfl
    rw [tellA (by rw [hs]; decide) (by rw [hs]; decide), tellB k]
    rfl
  · have := hok.k3 k
    have hs : (swapR r).k = 3 := by show swapK r.k = 3; rw [k]; rfl
    rw [tellA (by rw [hs]; decide) (by rw [hs]; decide), tellA (by rw [k]; decide) (by rw [k]; decide)]
    exact this.symm
  · exact absurd k hk4

theorem less_tri : ∀ (x y : List UInt8), Op.bytesLess x y = false → Op.bytesLess y x = false → x = y
  | [], [], _, _ => rfl
  | [], b :: y, h, _ => by simp [Op.bytesLess] at h
  | a :: x, [], _, h => by simp [Op.bytesLess] at h
  | a :: x, b :: y, h1, h2 => by
    simp only [Op.bytesLess, Bool.or_eq_false_iff, decide_eq_false_iff_not, Bool.and_eq_false_iff, beq_eq_false_iff_ne] at h1 h2
    have hab : a = b := by
      have q1 := h1.1; have q2 := h2.1
      rw [UInt8.lt_iff_toNat_lt] at q1 q2
      exact UInt8.toNat_inj.1 (by omega)
    subst hab
    rw [less_tri x y (by rcases h1.2 with h | h; exact absurd rfl h; exact h) (by rcases h2.2 with h | h; exact absurd rfl h; exact h)]
theorem less_asym : ∀ (x y : List UInt8), Op.bytesLess x y = true → Op.bytesLess y x = false
  | [], [], h => by simp [Op.bytesLess] at h
  | [], b :: y, h => by simp [Op.bytesLess]
  | a :: x, [], h => by simp [Op.bytesLess] at h
  | a :: x, b :: y, h => by
    simp only [Op.bytesLess, Bool.or_eq_true, decide_eq_true_eq, Bool.and_eq_true, beq_iff_eq] at h
    simp only [Op.bytesLess, Bool.or_eq_false_iff, decide_eq_false_iff_not, Bool.and_eq_false_iff, beq_eq_false_iff_ne]
    rcases h with h | ⟨rfl, h⟩
    · rw [UInt8.lt_iff_toNat_lt] at h
      refine ⟨by rw [UInt8.lt_iff_toNat_lt]; omega, .inl (fun e => by subst e; omega)⟩
    · refine ⟨by rw [UInt8.lt_iff_toNat_lt]; omega, .inr (less_asym x y h)⟩
theorem max_swap (a b : ByteArray) : maxS a b = maxS b a := by
  unfold maxS
  cases h1 : Op.bytesLess a.toList b.toList
  · cases h2 : Op.bytesLess b.toList a.toList
    · have := less_tri _ _ h1 h2
      simp only [Bool.false_eq_true, if_false]
      rw [ByteArray.toList_eq, ByteArray.toList_eq] at this
      exact ByteArray.ext (Array.toList_inj.1 this)
    · simp
  · rw [less_asym _ _ h1]; simp
theorem text_swap (o a b : ByteArray) (ho : o.size ≤ 1000) (ha : a.size ≤ 1000) (hb : b.size ≤ 1000) : (textOf o b a).2 = (textOf o a b).2 ∧ ((textOf o a b).2 = 0 → (textOf o b a).1 = (textOf o a b).1) := by
  unfold textOf
  by_cases h1 : a = b
  · subst h1; rw [if_pos (.inl rfl)]; exact ⟨rfl, fun _ => rfl⟩
  · by_cases h2 : b = o
    · rw [if_pos (.inr h2 : a = b ∨ b = o), if_neg (by rintro (h | h); exact h1 h.symm; exact h1 (h.trans h2.symm)), if_pos h2]
      exact ⟨rfl, fun _ => rfl⟩
    · by_cases h3 : a = o
      · rw [if_neg (by rintro (h | h); exact h1 h; exact h2 h : ¬ (a = b ∨ b = o)), if_pos h3, if_pos (.inr h3 : b = a ∨ a = o)]
        exact ⟨rfl, fun _ => rfl⟩
      · rw [if_neg (by rintro (h | h); exact h1 h; exact h2 h : ¬ (a = b ∨ b = o)), if_neg h3, if_neg (by rintro (h | h); exact h1 h.symm; exact h3 h : ¬ (b = a ∨ a = o)), if_neg h2]
        have hb2 : (binB o || binB b || binB a) = (binB o || binB a || binB b) := by cases binB o <;> cases binB a <;> cases binB b <;> rfl
        rw [hb2]
        by_cases h4 : (binB o || binB a || binB b) = true
        · rw [if_pos h4, if_pos h4]
          exact ⟨rfl, fun _ => max_swap b a⟩
        · rw [if_neg h4, if_neg h4]
          have lo := split_len o.size o; have la := split_len a.size a; have lb := split_len b.size b
          refine ⟨clash_swap _ _ _, fun h => ?_⟩
          show joinS _ = joinS _
          rw [merge_swap _ _ _ (by unfold splitS; omega) (by unfold splitS; omega) (by unfold splitS; omega) h]

end Go.Proofs.Ytekeiieefkgopaa.Ph
namespace Go.Proofs.Ytekeiieefkgopaa.Bb
open Go Go.Proofs.Ytekeiieefkgopaa.No Go.Proofs.Ytekeiieefkgopaa.Nq Go.Proofs.Ytekeiieefkgopaa.Pg Go.Proofs.Ytekeiieefkgopaa.Ph Go.Proofs.Ytekeiieefkgopaa.Ba
set_option linter.unusedVariables false
set_option linter.unusedSimpArgs false

/-- Strings that rise. -/
def RiseS (l : List ByteArray) : Prop := l.Pairwise (fun x y => less x y = true)
theorem rise_map {t : List Fl} : Rise t ↔ RiseS (t.map (·.path)) := by unfold Rise RiseS; rw [List.pairwise_map]
theorem riseS_ext : ∀ {l m : List ByteArray}, RiseS l → RiseS m → (∀ x, x ∈ l ↔ x ∈ m) → l = m
  | [], [], _, _, _ => rfl
  | [], y :: m, _, _, h => by have := (h y).2 (List.mem_cons_self ..); simp at this
  | x :: l, [], _, _, h => by have := (h x).1 (List.mem_cons_self ..); simp at this
  | x :: l, y :: m, h1, h2, h => by
    have g1 := List.pairwise_cons.1 h1
    have g2 := List.pairwise_cons.1 h2
    have hxy : x = y := by
      rcases List.mem_cons.1 ((h x).1 (List.mem_cons_self ..)) with e | e
      · exact e
      · rcases List.mem_cons.1 ((h y).2 (List.mem_cons_self ..)) with f | f
        · exact f.symm
        · have q1 := g2.1 x e
          have q2 := g1.1 y f
          rw [less_asym q1] at q2; cases q2
    subst hxy
    refine congrArg _ (riseS_ext g1.2 g2.2 (fun z => ?_))
    constructor
    · intro hz
      rcases List.mem_cons.1 ((h z).1 (List.mem_cons_of_mem _ hz)) with e | e
      · have := g1.1 z hz; rw [e, less_irrefl] at this; cases this
      · exact e
    · intro hz
      rcases List.mem_cons.1 ((h z).2 (List.mem_cons_of_mem _ hz)) with e | e
      · have := g2.1 z hz; rw [e, less_irrefl] at this; cases this
      · exact e
theorem rise_paths {t u : List Fl} (ht : Rise t) (hu : Rise u) (hp : t.map (·.path) = u.map (·.path)) (h : ∀ f, f ∈ t → f ∈ u) : t = u := by
  induction t generalizing u with
  | nil => cases u with
    | nil => rfl
    | cons y u => simp at hp
  | cons x t ih =>
    cases u with
    | nil => simp at hp
    | cons y u =>
      simp only [List.map_cons, List.cons.injEq] at hp
      have g1 := List.pairwise_cons.1 ht
      have g2 := List.pairwise_cons.1 hu
      have hxy : x = y := by
        rcases List.mem_cons.1 (h x (List.mem_cons_self ..)) with e | e
        · exact e
        · have := g2.1 x e; rw [hp.1, less_irrefl] at this; cases this
      subst hxy
      rw [ih g1.2 g2.2 hp.2 (fun f hf => by
        rcases List.mem_cons.1 (h f (List.mem_cons_of_mem _ hf)) with e | e
        · have := g1.1 f hf; rw [e, less_irrefl] at this; cases this
        · exact e)]
theorem get_mem {t : List Fl} (ht : Rise t) (p s : ByteArray) : getF t p = some s ↔ ⟨p, s⟩ ∈ t := by
  unfold getF
  constructor
  · intro h
    cases hf : t.find? (fun f => decide (f.path = p)) with
    | none => rw [hf] at h; simp at h
    | some f =>
      rw [hf] at h
      have h1 := List.find?_some hf
      have h2 := List.mem_of_find?_eq_some hf
      simp only [decide_eq_true_eq] at h1
      have h3 : f.text = s := by simpa using h
      rw [← h1, ← h3]; exact h2
  · intro h
    induction t with
    | nil => simp at h
    | cons f t ih =>
      have g := List.pairwise_cons.1 ht
      rw [List.find?_cons]
      rcases List.mem_cons.1 h with e | e
      · rw [← e]; simp
      · have hne : f.path ≠ p := less_ne (g.1 _ e)
        simp only [hne, decide_false]
        exact ih g.2 e
theorem get_none {t : List Fl} (p : ByteArray) : getF t p = none ↔ p ∉ t.map (·.path) := by
  unfold getF
  rw [Option.map_eq_none_iff, List.find?_eq_none]
  simp only [decide_eq_true_eq, List.mem_map, not_exists, not_and]

theorem paths_mem (a b : List Fl) : ∀ p, p ∈ pathsL a b ↔ p ∈ a.map (·.path) ∨ p ∈ b.map (·.path) := by
  induction a, b using pathsL.induct with
  | case1 x a ih => intro p; rw [pathsL]; simp only [List.mem_cons, List.map_cons, ih]; simp
  | case2 y b ih => intro p; rw [pathsL]; simp only [List.mem_cons, List.map_cons, ih]; simp
  | case3 x a y b h ih => intro p; rw [pathsL, if_pos h]; simp only [List.mem_cons, List.map_cons, ih]; simp only [or_assoc]
  | case4 x a y b h h2 ih => intro p; rw [pathsL, if_neg h, if_pos h2]; simp only [List.mem_cons, List.map_cons, ih]; constructor <;> (intro h; rcases h with h | h | h <;> simp_all)
  | case5 x a y b h h2 ih =>
    intro p; rw [pathsL, if_neg h, if_neg h2]
    have e := less_tri (by simpa using h) (by simpa using h2)
    simp only [List.mem_cons, List.map_cons, ih, ← e]
    constructor
    · rintro (h | h | h) <;> simp [h]
    · rintro ((h | h) | (h | h)) <;> simp [h]
  | case6 => intro p; rw [pathsL]; simp
theorem paths_rise (a b : List Fl) : Rise a → Rise b → RiseS (pathsL a b) := by
  induction a, b using pathsL.induct with
  | case1 x a ih =>
    intro ha hb; rw [pathsL]
    have g := List.pairwise_cons.1 ha
    refine List.pairwise_cons.2 ⟨fun p hp => ?_, ih g.2 hb⟩
    rcases (paths_mem a [] p).1 hp with h | h
    · obtain ⟨f, hf, rfl⟩ := List.mem_map.1 h; exact g.1 f hf
    · simp at h
  | case2 y b ih =>
    intro ha hb; rw [pathsL]
    have g := List.pairwise_cons.1 hb
    refine List.pairwise_cons.2 ⟨fun p hp => ?_, ih ha g.2⟩
    rcases (paths_mem [] b p).1 hp with h | h
    · simp at h
    · obtain ⟨f, hf, rfl⟩ := List.mem_map.1 h; exact g.1 f hf
  | case3 x a y b h ih =>
    intro ha hb; rw [pathsL, if_pos h]
    have g := List.pairwise_cons.1 ha
    have k := List.pairwise_cons.1 hb
    refine List.pairwise_cons.2 ⟨fun p hp => ?_, ih g.2 hb⟩
    rcases (paths_mem a (y :: b) p).1 hp with h1 | h1
    · obtain ⟨f, hf, rfl⟩ := List.mem_map.1 h1; exact g.1 f hf
    · obtain ⟨f, hf, rfl⟩ := List.mem_map.1 h1
      rcases List.mem_cons.1 hf with rfl | hf
      · exact h
      · exact less_trans h (k.1 f hf)
  | case4 x a y b h h2 ih =>
    intro ha hb; rw [pathsL, if_neg h, if_pos h2]
    have g := List.pairwise_cons.1 ha
    have k := List.pairwise_cons.1 hb
    refine List.pairwise_cons.2 ⟨fun p hp => ?_, ih ha k.2⟩
    rcases (paths_mem (x :: a) b p).1 hp with h1 | h1
    · obtain ⟨f, hf, rfl⟩ := List.mem_map.1 h1
      rcases List.mem_cons.1 hf with rfl | hf
      · exact h2
      · exact less_trans h2 (g.1 f hf)
    · obtain ⟨f, hf, rfl⟩ := List.mem_map.1 h1; exact k.1 f hf
  | case5 x a y b h h2 ih =>
    intro ha hb; rw [pathsL, if_neg h, if_neg h2]
    have e := less_tri (by simpa using h) (by simpa using h2)
    have g := List.pairwise_cons.1 ha
    have k := List.pairwise_cons.1 hb
    refine List.pairwise_cons.2 ⟨fun p hp => ?_, ih g.2 k.2⟩
    rcases (paths_mem a b p).1 hp with h1 | h1
    · obtain ⟨f, hf, rfl⟩ := List.mem_map.1 h1; exact g.1 f hf
    · obtain ⟨f, hf, rfl⟩ := List.mem_map.1 h1; rw [e]; exact k.1 f hf
  | case6 => intro ha hb; rw [pathsL]; exact List.Pairwise.nil
theorem paths_swap {a b : List Fl} (ha : Rise a) (hb : Rise b) : pathsL b a = pathsL a b :=
  riseS_ext (paths_rise b a hb ha) (paths_rise a b ha hb) (fun p => by rw [paths_mem, paths_mem]; exact or_comm)

/-- The making, told without steps. -/
def fileAt (o a b : List Fl) (p : ByteArray) : Option Fl := if (oneB (ofF o p) (ofF a p) (ofF b p)).1.is then some ⟨p, (oneB (ofF o p) (ofF a p) (ofF b p)).1.text⟩ else none
def oddAt (o a b : List Fl) (p : ByteArray) : Bool := (oneB (ofF o p) (ofF a p) (ofF b p)).2
theorem fold_T (o a b : List Fl) : ∀ (ps : List ByteArray) (s : List Fl × List ByteArray), s.1.length + ps.length ≤ 1000 → ps.foldl (stepTr o a b) s = (s.1 ++ ps.filterMap (fileAt o a b), s.2 ++ ps.filter (oddAt o a b))
  | [], s, _ => by simp
  | p :: ps, s, h => by
    simp only [List.length_cons] at h
    have hlt : decide (s.1.length < 1000) = true := by simp; omega
    have hst : stepTr o a b s p = (s.1 ++ (fileAt o a b p).toList, s.2 ++ (if oddAt o a b p then [p] else [])) := by
      unfold stepTr fileAt oddAt
      rw [hlt, Bool.and_true]
      split <;> split <;> simp
    have hfl : (fileAt o a b p).toList.length ≤ 1 := by cases fileAt o a b p <;> simp
    rw [List.foldl_cons, hst, fold_T o a b ps]
    · cases hf : fileAt o a b p <;> cases ho : oddAt o a b p <;> simp [hf, ho]
    · simp only [List.length_append]; omega
theorem paths_len (a b : List Fl) : (pathsL a b).length ≤ a.length + b.length := by
  induction a, b using pathsL.induct with
  | case1 x a ih => rw [pathsL]; simp at *; omega
  | case2 y b ih => rw [pathsL]; simp at *; omega
  | case3 x a y b h ih => rw [pathsL, if_pos h]; simp at *; omega
  | case4 x a y b h h2 ih => rw [pathsL, if_neg h, if_pos h2]; simp at *; omega
  | case5 x a y b h h2 ih => rw [pathsL, if_neg h, if_neg h2]; simp at *; omega
  | case6 => rw [pathsL]; simp
theorem trees_eq (o a b : List Fl) (h : a.length + b.length ≤ 1000) : treesL o a b = ((pathsL a b).filterMap (fileAt o a b), (pathsL a b).filter (oddAt o a b)) := by
  unfold treesL
  rw [fold_T o a b _ _ (by have := paths_len a b; simp; omega)]
  simp
theorem file_path {o a b : List Fl} {p : ByteArray} {f : Fl} (h : fileAt o a b p = some f) : f.path = p := by
  unfold fileAt at h
  split at h
  · cases h; rfl
  · cases h
/-- .. they rise. -/
theorem filterMap_rise {o a b : List Fl} : ∀ {ps : List ByteArray}, RiseS ps → Rise (ps.filterMap (fileAt o a b))
  | [], _ => List.Pairwise.nil
  | p :: ps, h => by
    have g := List.pairwise_cons.1 h
    rw [List.filterMap_cons]
    split
    · exact filterMap_rise g.2
    · rename_i f hf
      refine List.pairwise_cons.2 ⟨fun x hx => ?_, filterMap_rise g.2⟩
      obtain ⟨q, hq, hx⟩ := List.mem_filterMap.1 hx
      rw [file_path hf, file_path hx]
      exact g.1 q hq
theorem ofF_some {t : List Fl} {p s : ByteArray} (h : getF t p = some s) : ofF t p = ⟨s, true⟩ := by unfold ofF; rw [h]
theorem ofF_none {t : List Fl} {p : ByteArray} (h : getF t p = none) : ofF t p = ⟨ByteArray.empty, false⟩ := by unfold ofF; rw [h]
/-- Where one side's files are told, it is that side. -/
theorem only_is {o a b x : List Fl} (hx : Rise x) (ha : Rise a) (hb : Rise b) (hp : ∀ p, p ∈ x.map (·.path) → p ∈ a.map (·.path) ∨ p ∈ b.map (·.path)) (h : ∀ p, oneB (ofF o p) (ofF a p) (ofF b p) = (ofF x p, false)) (hl : a.length + b.length ≤ 1000) :
    treesL o a b = (x, []) := by
  rw [trees_eq o a b hl]
  have hr := filterMap_rise (o := o) (a := a) (b := b) (paths_rise a b ha hb)
  have hm : ∀ f, f ∈ (pathsL a b).filterMap (fileAt o a b) ↔ f ∈ x := by
    intro f
    rw [List.mem_filterMap]
    constructor
    · rintro ⟨p, _, hf⟩
      unfold fileAt at hf
      rw [h p] at hf
      cases hg : getF x p with
      | none => rw [ofF_none hg] at hf; simp at hf
      | some s => rw [ofF_some hg] at hf; simp at hf; rw [← hf]; exact (get_mem hx p s).1 hg
    · intro hf
      refine ⟨f.path, (paths_mem a b _).2 (hp _ (List.mem_map.2 ⟨f, hf, rfl⟩)), ?_⟩
      unfold fileAt
      rw [h, ofF_some ((get_mem hx f.path f.text).2 hf)]
      rfl
  have hpe : ((pathsL a b).filterMap (fileAt o a b)).map (·.path) = x.map (·.path) := by
    refine riseS_ext (rise_map.1 hr) (rise_map.1 hx) (fun p => ?_)
    rw [List.mem_map, List.mem_map]
    exact ⟨fun ⟨f, hf, e⟩ => ⟨f, (hm f).1 hf, e⟩, fun ⟨f, hf, e⟩ => ⟨f, (hm f).2 hf, e⟩⟩
  rw [rise_paths hr hx hpe (fun f hf => (hm f).1 hf)]
  congr 1
  rw [List.filter_eq_nil_iff]
  intro p _
  unfold oddAt
  rw [h p]
  simp
theorem one_left' (o a : At) : oneB o a o = (a, false) := by unfold oneB; rw [if_pos (.inr rfl)]
theorem one_right' (o b : At) : oneB o o b = (b, false) := by
  unfold oneB
  split
  · rename_i h
    rcases h with h | h
    · rw [h]
    · rw [h]
  · rw [if_pos rfl]
theorem one_both' (o a : At) : oneB o a a = (a, false) := by unfold oneB; rw [if_pos (.inl rfl)]
theorem trees_left {o a : List Fl} (ho : Rise o) (ha : Rise a) (hl : o.length + a.length ≤ 1000) : treesL o a o = (a, []) :=
  only_is ha ha ho (fun p h => .inl h) (fun p => one_left' _ _) (by omega)
theorem trees_right {o a : List Fl} (ho : Rise o) (ha : Rise a) (hl : o.length + a.length ≤ 1000) : treesL o o a = (a, []) :=
  only_is ha ho ha (fun p h => .inr h) (fun p => one_right' _ _) (by omega)
theorem trees_both {o a : List Fl} (ha : Rise a) (hl : a.length + a.length ≤ 1000) : treesL o a a = (a, []) :=
  only_is ha ha ha (fun p h => .inl h) (fun p => one_both' _ _) (by omega)

/-- With the sides changed. -/
def Shape (x : At) : Prop := x.is = false → x.text = ByteArray.empty
theorem ofF_shape (t : List Fl) (p : ByteArray) : Shape (ofF t p) := by
  unfold ofF
  split
  · intro h; simp at h
  · intro _; rfl
theorem one_swap {o a b : At} (ha : Shape a) (hb : Shape b) (zo : o.text.size ≤ 1000) (za : a.text.size ≤ 1000) (zb : b.text.size ≤ 1000) :
    (oneB o b a).2 = (oneB o a b).2 ∧ (oneB o b a).1.is = (oneB o a b).1.is ∧ ((oneB o a b).2 = false → (oneB o b a).1.text = (oneB o a b).1.text) := by
  have hts := text_swap o.text a.text b.text zo za zb
  unfold oneB
  by_cases h1 : a = b
  · subst h1; rw [if_pos (.inl rfl)]; exact ⟨rfl, rfl, fun _ => rfl⟩
  · by_cases h2 : b = o
    · rw [if_pos (.inr h2 : a = b ∨ b = o), if_neg (by rintro (h | h); exact h1 h.symm; exact h1 (h.trans h2.symm)), if_pos h2]
      exact ⟨rfl, rfl, fun _ => rfl⟩
    · by_cases h3 : a = o
      · rw [if_neg (by rintro (h | h); exact h1 h; exact h2 h : ¬ (a = b ∨ b = o)), if_pos h3, if_pos (.inr h3 : b = a ∨ a = o)]
        exact ⟨rfl, rfl, fun _ => rfl⟩
      · rw [if_neg (by rintro (h | h); exact h1 h; exact h2 h : ¬ (a = b ∨ b = o)), if_neg h3, if_neg (by rintro (h | h); exact h1 h.symm; exact h3 h : ¬ (b = a ∨ a = o)), if_neg h2]
        unfold bothB
        cases hai : a.is with
        | false =>
          cases hbi : b.is with
          | false =>
            exfalso
            apply h1
            cases a; cases b
            simp only at hai hbi
            have q1 := ha hai; have q2 := hb hbi
            simp only at q1 q2
            rw [hai, hbi, q1, q2]
          | true => simp [hbi]
        | true =>
          cases hbi : b.is with
          | false => simp [hai]
          | true =>
            simp only [Bool.true_eq_false, if_false]
            obtain ⟨r1, e1⟩ : ∃ r, textOf o.text a.text b.text = r := ⟨_, rfl⟩
            obtain ⟨r2, e2⟩ : ∃ r, textOf o.text b.text a.text = r := ⟨_, rfl⟩
            rw [e1, e2] at hts ⊢
            obtain ⟨g1, g2⟩ := hts
            by_cases h0 : r1.2 = 0
            · rw [g2 h0, g1]
              split
              · exact ⟨rfl, rfl, fun h => by simp at h⟩
              · exact ⟨rfl, rfl, fun _ => rfl⟩
            · have p1 : decide (0 < r1.2) = true := by simp; omega
              rw [g1, p1]
              split <;> split <;> exact ⟨rfl, rfl, fun h => by simp at h⟩

end Go.Proofs.Ytekeiieefkgopaa.Bb
