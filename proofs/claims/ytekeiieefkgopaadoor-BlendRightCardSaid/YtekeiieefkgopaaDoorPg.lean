/- Merges where one side alone changed, or both alike; merges with the sides changed: plain lists. -/
import Derived.Test.YtekeiieefkgopaaDoorPe
namespace Go.Proofs.YtekeiieefkgopaaDoor.Pg
open Go.Proofs.YtekeiieefkgopaaDoor.Mb Go.Proofs.YtekeiieefkgopaaDoor.Mc Go.Proofs.YtekeiieefkgopaaDoor.Me Go.Proofs.YtekeiieefkgopaaDoor.Mg Go.Proofs.YtekeiieefkgopaaDoor.Mi Go.Proofs.YtekeiieefkgopaaDoor.Na Go.Proofs.YtekeiieefkgopaaDoor.Nb Go.Proofs.YtekeiieefkgopaaDoor.Nc Go.Proofs.YtekeiieefkgopaaDoor.Nf Go.Proofs.YtekeiieefkgopaaDoor.Nh Go.Proofs.YtekeiieefkgopaaDoor.No Go.Proofs.YtekeiieefkgopaaDoor.Np Go.Proofs.YtekeiieefkgopaaDoor.Nq Go.Proofs.YtekeiieefkgopaaDoor.Pa Go.Proofs.YtekeiieefkgopaaDoor.Pb Go.Proofs.YtekeiieefkgopaaDoor.Pc Go.Proofs.YtekeiieefkgopaaDoor.Pd
set_option linter.unusedVariables false
set_option linter.unusedSimpArgs false

theorem diff_self (l : Ls) : diffOf l l = [] := by
  have hf : frontN l l = l.length := by
    have h := firstNot_spec (sameAt l l) (min l.length l.length)
    unfold frontN
    rcases Nat.lt_or_ge (firstNot (sameAt l l) (min l.length l.length)) (min l.length l.length) with h1 | h1
    · have := h.2.2 h1
      simp [sameAt] at this
    · omega
  unfold diffOf
  rw [hf]
  simp [midDiff]

/-- All clusters are such. -/
theorem meets_h1 (c : Clu) (l : List EditP) (h : c.h1 = false) : (meets c l []).1.h1 = false ∧ (meets c l []).2.2 = [] := by
  induction l generalizing c with
  | nil => rw [meets]; exact ⟨h, rfl⟩
  | cons e l ih =>
    rw [meets]
    split
    · exact ih _ h
    · exact ⟨h, rfl⟩
theorem clus_left : ∀ (n : Nat) (l : List EditP), ∀ c ∈ clus n l [], c.h1 = false
  | 0, l, c, hc => by simp [clus] at hc
  | n + 1, l, c, hc => by
    unfold clus at hc
    split at hc
    · simp at hc
    · have h := meets_h1 ⟨startAt l [], startAt l [], 0, 0, false, false⟩ l rfl
      have e : firstC l [] = meets ⟨startAt l [], startAt l [], 0, 0, false, false⟩ l [] := rfl
      rcases List.mem_cons.1 hc with rfl | hc
      · exact h.1
      · rw [e, h.2] at hc
        exact clus_left n _ c hc
theorem meets_h0 (c : Clu) (r : List EditP) (h : c.h0 = false) (h1 : c.h1 = true) : (meets c [] r).1.h0 = false ∧ (meets c [] r).1.h1 = true ∧ (meets c [] r).2.1 = [] := by
  induction r generalizing c with
  | nil => rw [meets]; exact ⟨h, h1, rfl⟩
  | cons e l ih =>
    rw [meets]
    split
    · exact ih _ h rfl
    · exact ⟨h, h1, rfl⟩
theorem clus_right : ∀ (n : Nat) (r : List EditP), ∀ c ∈ clus n [] r, c.h0 = false ∧ c.h1 = true
  | 0, l, c, hc => by simp [clus] at hc
  | n + 1, [], c, hc => by simp [clus] at hc
  | n + 1, f :: r, c, hc => by
    unfold clus at hc
    split at hc
    · simp at hc
    · have e : firstC [] (f :: r) = meets (Clu.add1 ⟨f.at_, f.at_, 0, 0, false, false⟩ f) [] r := by
        unfold firstC
        rw [meets, if_pos (by simp [startAt])]
        rfl
      have h := meets_h0 (Clu.add1 ⟨f.at_, f.at_, 0, 0, false, false⟩ f) r rfl rfl
      rcases List.mem_cons.1 hc with rfl | hc
      · rw [e]; exact ⟨h.1, h.2.1⟩
      · rw [e, h.2.2] at hc
        exact clus_right n _ c hc
/-- Both sides alike: each edit, of both. -/
theorem firstC_both (e : EditP) (l : List EditP) (h : Apart (e :: l)) : ∃ c, firstC (e :: l) (e :: l) = (c, l, l) ∧ c.h0 = true ∧ c.h1 = true ∧ c.m0 = c.m1 := by
  have hs : startAt (e :: l) (e :: l) = e.at_ := by simp [startAt]
  unfold firstC
  rw [hs, meets, if_pos (Nat.le_refl _)]
  obtain ⟨c1, hc1⟩ : ∃ c, Clu.add0 ⟨e.at_, e.at_, 0, 0, false, false⟩ e = c := ⟨_, rfl⟩
  have t1 : c1.to_ = e.at_ + e.del := by rw [← hc1]; simp only [Clu.add0, Clu.take0]; omega
  have m1 : c1.m0 = (e.ins.length : Int) - e.del ∧ c1.m1 = 0 ∧ c1.h0 = true := by rw [← hc1]; simp [Clu.add0, Clu.take0]
  rw [hc1]
  obtain ⟨c2, hc2⟩ : ∃ c, Clu.add1 c1 e = c := ⟨_, rfl⟩
  have t2 : c2.to_ = e.at_ + e.del := by rw [← hc2]; simp only [Clu.add1, Clu.take1]; omega
  have m2 : c2.m0 = (e.ins.length : Int) - e.del ∧ c2.m1 = (e.ins.length : Int) - e.del ∧ c2.h0 = true ∧ c2.h1 = true := by rw [← hc2]; simp [Clu.add1, Clu.take1, m1]
  refine ⟨c2, ?_, m2.2.2.1, m2.2.2.2, by rw [m2.1, m2.2.1]⟩
  cases l with
  | nil => rw [meets, if_pos (by omega), hc2, meets]
  | cons f l =>
    have hlt : e.at_ + e.del < f.at_ := (List.pairwise_cons.1 h).1 f (List.mem_cons_self ..)
    rw [meets, if_neg (by omega), if_pos (by omega), hc2, meets, if_neg (by omega), if_neg (by omega)]
theorem clus_both : ∀ (n : Nat) (l : List EditP), Apart l → ∀ c ∈ clus n l l, c.h0 = true ∧ c.h1 = true ∧ c.m0 = c.m1
  | 0, l, _, c, hc => by simp [clus] at hc
  | n + 1, [], _, c, hc => by simp [clus] at hc
  | n + 1, e :: l, ha, c, hc => by
    obtain ⟨c', h1, h2⟩ := firstC_both e l ha
    unfold clus at hc
    split at hc
    · simp at hc
    · rw [h1] at hc
      rcases List.mem_cons.1 hc with rfl | hc
      · exact h2
      · exact clus_both n l (List.pairwise_cons.1 ha).2 c hc

theorem head_out (s : RSt) (c : Clu) (K : Int → Prop) (h0 : K 0) (h : ∀ r ∈ s.out, K r.k) : ∀ r ∈ (headS s c).out, K r.k := by
  unfold headS
  split
  · intro r hr
    unfold gapS at hr
    rcases List.mem_append.1 hr with hr | hr
    · exact h r hr
    · rw [List.mem_singleton.1 hr]; exact h0
  · exact h
theorem run_kind (a b : Ls) (K : Int → Prop) (h0 : K 0) (C : Clu → Prop) (hC : ∀ c, C c → ∀ s, K (kindS a b s c)) : ∀ (cs : List Clu) (s : RSt), (∀ c ∈ cs, C c) → (∀ r ∈ s.out, K r.k) → ∀ r ∈ (cs.foldl (stepS a b) s).out, K r.k
  | [], s, _, h => h
  | c :: cs, s, hc, h => by
    rw [List.foldl_cons]
    refine run_kind a b K h0 C hC cs _ (fun x hx => hc x (List.mem_cons_of_mem _ hx)) (fun r hr => ?_)
    unfold stepS at hr
    rcases List.mem_append.1 hr with hr | hr
    · exact head_out s c K h0 h r hr
    · rw [List.mem_singleton.1 hr]; exact hC c (hc c (List.mem_cons_self ..)) s
theorem end_kind (K : Int → Prop) (h0 : K 0) (s : RSt) (n : Nat) (h : ∀ r ∈ s.out, K r.k) : ∀ r ∈ (endS s n).out, K r.k := by
  unfold endS
  split
  · intro r hr
    unfold gapS at hr
    rcases List.mem_append.1 hr with hr | hr
    · exact h r hr
    · rw [List.mem_singleton.1 hr]; exact h0
  · exact h
theorem regs_kind (o a b : Ls) (K : Int → Prop) (h0 : K 0) (C : Clu → Prop) (hC : ∀ c, C c → ∀ s, K (kindS a b s c)) (hc : ∀ c ∈ clusOf (diffOf o a) (diffOf o b), C c) : ∀ r ∈ regionsOf o a b, K r.k :=
  end_kind K h0 _ _ (run_kind a b K h0 C hC _ Nf.start hc (fun r hr => by simp [Nf.start] at hr))
theorem fm_congr {α β : Type} {f g : α → List β} : ∀ {l : List α}, (∀ x ∈ l, f x = g x) → l.flatMap f = l.flatMap g
  | [], _ => rfl
  | x :: l, h => by rw [List.flatMap_cons, List.flatMap_cons, h x (List.mem_cons_self ..), fm_congr (fun y hy => h y (List.mem_cons_of_mem _ hy))]
theorem no_clash {rs : List Reg} (h : ∀ r ∈ rs, r.k ≠ 4) : clashN rs = 0 := by
  unfold clashN
  rw [List.length_eq_zero_iff, List.filter_eq_nil_iff]
  intro r hr
  simp [isClash, h r hr]

theorem one_left (l m : Ls) (hl : l.length ≤ 10000) (hm : m.length ≤ 10000) : mergeL l m l = m ∧ clashN (regionsOf l m l) = 0 := by
  have hk := regs_kind l m l (fun k => k = 0 ∨ k = 1) (.inl rfl) (fun c => c.h1 = false) (fun c hc s => .inr (by unfold kindS kindOf; rw [if_pos hc]))
    (by unfold clusOf; rw [diff_self]; exact clus_left _ _)
  obtain ⟨h1, _⟩ := regs_ok l m l hl hm hl
  refine ⟨?_, no_clash (fun r hr => by have := hk r hr; omega)⟩
  unfold mergeL
  rw [fm_congr (g := fun r => cutL m r.af r.am), h1.fa]
  intro r hr
  have := hk r hr
  unfold tellR
  rw [if_neg (by omega), if_neg (by omega)]
theorem one_right (l m : Ls) (hl : l.length ≤ 10000) (hm : m.length ≤ 10000) : mergeL l l m = m ∧ clashN (regionsOf l l m) = 0 := by
  have hk := regs_kind l l m (fun k => k = 0 ∨ k = 2) (.inl rfl) (fun c => c.h0 = false ∧ c.h1 = true) (fun c hc s => .inr (by unfold kindS kindOf; rw [if_neg (by rw [hc.2]; simp), if_pos hc.1]))
    (by unfold clusOf; rw [diff_self]; exact clus_right _ _)
  obtain ⟨h1, _⟩ := regs_ok l l m hl hl hm
  refine ⟨?_, no_clash (fun r hr => by have := hk r hr; omega)⟩
  unfold mergeL
  rw [fm_congr (g := fun r => cutL m r.bf r.bm), h1.fb]
  intro r hr
  have hr2 := h1.ok r hr
  unfold tellR
  rcases hk r hr with h | h
  · rw [if_neg (by omega), if_neg (by omega)]
    have := hr2.k0 h
    rw [← this.1, this.2]
  · rw [if_pos h]

/-- Both sides alike: the regions are. -/
def Ev (r : Reg) : Prop := r.af = r.bf ∧ r.am = r.bm
theorem run_both (m : Ls) : ∀ (cs : List Clu) (s : RSt), (∀ c ∈ cs, c.h0 = true ∧ c.h1 = true ∧ c.m0 = c.m1) → Ev s.last → (∀ r ∈ s.out, r.k = 0 ∨ r.k = 3) → (∀ r ∈ (cs.foldl (stepS m m) s).out, r.k = 0 ∨ r.k = 3)
  | [], s, _, _, h => h
  | c :: cs, s, hc, he, h => by
    rw [List.foldl_cons]
    have hcc := hc c (List.mem_cons_self ..)
    have hh : Ev (headS s c).last := by
      unfold headS
      split
      · have h1 := he.1; have h2 := he.2
        exact ⟨by simp only [gapS, nextR]; omega, by simp only [gapS, nextR]⟩
      · exact he
    have hr : Ev (regS s c) := by
      have h1 := hh.1; have h2 := hh.2; have h3 := hcc.2.2
      exact ⟨by simp only [regS, nextR]; omega, by simp only [regS, nextR]; omega⟩
    refine run_both m cs _ (fun x hx => hc x (List.mem_cons_of_mem _ hx)) hr (fun r hr2 => ?_)
    unfold stepS at hr2
    rcases List.mem_append.1 hr2 with hr2 | hr2
    · exact head_out s c (fun k => k = 0 ∨ k = 3) (.inl rfl) h r hr2
    · rw [List.mem_singleton.1 hr2]
      right
      show kindS m m s c = 3
      unfold kindS kindOf
      rw [if_neg (by rw [hcc.2.1]; simp), if_neg (by rw [hcc.1]; simp), if_pos (by rw [hr.1, hr.2])]
theorem one_both (l m : Ls) (hl : l.length ≤ 10000) (hm : m.length ≤ 10000) : mergeL l m m = m ∧ clashN (regionsOf l m m) = 0 := by
  have hk : ∀ r ∈ regionsOf l m m, r.k = 0 ∨ r.k = 3 :=
    end_kind (fun k => k = 0 ∨ k = 3) (.inl rfl) _ _ (run_both m _ Nf.start (clus_both _ _ (diff_scr l m).2.1) ⟨rfl, rfl⟩ (fun r hr => by simp [Nf.start] at hr))
  obtain ⟨h1, _⟩ := regs_ok l m m hl hm hm
  refine ⟨?_, no_clash (fun r hr => by have := hk r hr; omega)⟩
  unfold mergeL
  rw [fm_congr (g := fun r => cutL m r.af r.am), h1.fa]
  intro r hr
  have := hk r hr
  unfold tellR
  rw [if_neg (by omega), if_neg (by omega)]

end Go.Proofs.YtekeiieefkgopaaDoor.Pg
