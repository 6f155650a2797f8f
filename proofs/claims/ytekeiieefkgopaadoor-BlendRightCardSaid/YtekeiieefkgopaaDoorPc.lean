/- Regions, by lists: they fit, and each is what its kind says. -/
import Derived.Test.YtekeiieefkgopaaDoorPb
namespace Go.Proofs.YtekeiieefkgopaaDoor.Pc
open Go.Proofs.YtekeiieefkgopaaDoor.Mc Go.Proofs.YtekeiieefkgopaaDoor.Mg Go.Proofs.YtekeiieefkgopaaDoor.Mi Go.Proofs.YtekeiieefkgopaaDoor.Na Go.Proofs.YtekeiieefkgopaaDoor.Nb Go.Proofs.YtekeiieefkgopaaDoor.Nc Go.Proofs.YtekeiieefkgopaaDoor.Nf Go.Proofs.YtekeiieefkgopaaDoor.Nh Go.Proofs.YtekeiieefkgopaaDoor.Pa Go.Proofs.YtekeiieefkgopaaDoor.Pb
set_option linter.unusedVariables false
set_option linter.unusedSimpArgs false

theorem cut_nat (xs : Ls) (f m : Nat) : cutL xs (f : Int) (m : Int) = (xs.drop f).take m := by
  unfold cutL
  rw [show ((f : Int) + (m : Int)).toNat = f + m from by omega, Int.toNat_natCast, List.drop_take, Nat.add_sub_cancel_left]
theorem take_glue (xs : Ls) (p n : Nat) : xs.take p ++ (xs.drop p).take n = xs.take (p + n) := (List.take_add ..).symm

/-- A region that is what its kind says. -/
structure RegOk (o a b : Ls) (r : Reg) : Prop where
  fit : FitR o a b r
  k0 : r.k = 0 → cutL o r.of r.om = cutL a r.af r.am ∧ cutL o r.of r.om = cutL b r.bf r.bm
  k1 : r.k = 1 → cutL o r.of r.om = cutL b r.bf r.bm
  k2 : r.k = 2 → cutL o r.of r.om = cutL a r.af r.am
  k3 : r.k = 3 → cutL a r.af r.am = cutL b r.bf r.bm
  k4 : r.k = 4 → cutL a r.af r.am ≠ cutL b r.bf r.bm
/-- Regions in the making. -/
structure J (o a b : Ls) (last : Reg) (out : List Reg) (p A B : Nat) (l r : List EditP) : Prop where
  po : last.of + last.om = p
  pa : last.af + last.am = A
  pb : last.bf + last.bm = B
  g1 : 0 ≤ last.of ∧ 0 ≤ last.om
  g2 : 0 ≤ last.af ∧ 0 ≤ last.am
  g3 : 0 ≤ last.bf ∧ 0 ≤ last.bm
  lo : p ≤ o.length
  la : A ≤ a.length
  lb : B ≤ b.length
  sa : Scr p (o.drop p) (a.drop A) l
  sb : Scr p (o.drop p) (b.drop B) r
  fo : out.flatMap (fun r => cutL o r.of r.om) = o.take p
  fa : out.flatMap (fun r => cutL a r.af r.am) = a.take A
  fb : out.flatMap (fun r => cutL b r.bf r.bm) = b.take B
  ok : ∀ r ∈ out, RegOk o a b r
section
variable {o a b : Ls} {last : Reg} {out : List Reg} {p A B : Nat} {l r : List EditP}
theorem J.gap (h : J o a b last out p A B l r) (n : Nat) (hn : p + n ≤ o.length) (f1 : Far (p + n) l) (f2 : Far (p + n) r) :
    J o a b (nextR last n 0 0) (out ++ [nextR last n 0 0]) (p + n) (A + n) (B + n) l r := by
  obtain ⟨a1, a2, a3⟩ := Scr.adv h.sa (by rw [List.length_drop]; omega) f1
  obtain ⟨b1, b2, b3⟩ := Scr.adv h.sb (by rw [List.length_drop]; omega) f2
  rw [List.length_drop] at a2 b2
  rw [List.drop_drop, List.drop_drop] at a3 b3
  have h1 := h.po; have h2 := h.pa; have h3 := h.pb; have q1 := h.g1; have q2 := h.g2; have q3 := h.g3; have w1 := h.lo; have w2 := h.la; have w3 := h.lb
  have eo : cutL o (last.of + last.om) n = (o.drop p).take n := by rw [h1, cut_nat]
  have ea : cutL a (last.af + last.am) (n + 0) = (a.drop A).take n := by rw [h2, Int.add_zero, cut_nat]
  have eb : cutL b (last.bf + last.bm) (n + 0) = (b.drop B).take n := by rw [h3, Int.add_zero, cut_nat]
  refine ⟨?_, ?_, ?_, ?_, ?_, ?_, hn, by omega, by omega, a3, b3, ?_, ?_, ?_, ?_⟩
  · simp only [nextR]; omega
  · simp only [nextR]; omega
  · simp only [nextR]; omega
  · simp only [nextR]; omega
  · simp only [nextR]; omega
  · simp only [nextR]; omega
  · rw [List.flatMap_append, h.fo]
    simp only [List.flatMap_cons, List.flatMap_nil, List.append_nil, nextR]
    rw [eo, take_glue]
  · rw [List.flatMap_append, h.fa]
    simp only [List.flatMap_cons, List.flatMap_nil, List.append_nil, nextR]
    rw [ea, take_glue]
  · rw [List.flatMap_append, h.fb]
    simp only [List.flatMap_cons, List.flatMap_nil, List.append_nil, nextR]
    rw [eb, take_glue]
  · intro x hx
    rcases List.mem_append.1 hx with hx | hx
    · exact h.ok x hx
    · rw [List.mem_singleton.1 hx]
      refine ⟨⟨by simp [nextR], ?_, ?_, ?_⟩, fun _ => ?_, ?_, ?_, ?_, ?_⟩
      · simp only [nextR]; omega
      · simp only [nextR]; omega
      · simp only [nextR]; omega
      · simp only [nextR]
        rw [eo, ea, eb]
        exact ⟨a1, b1⟩
      all_goals (intro hk; simp [nextR] at hk)
theorem J.clu (h : J o a b last out p A B l r) {c : Clu} {l' r' : List EditP} (hd : Done p (o.drop p) (a.drop A) (b.drop B) c l' r') :
    J o a b (nextR last ((c.to_ : Int) - c.from_) c.m0 c.m1)
      (out ++ [{ nextR last ((c.to_ : Int) - c.from_) c.m0 c.m1 with k := kindOf c (cutL a (nextR last ((c.to_ : Int) - c.from_) c.m0 c.m1).af (nextR last ((c.to_ : Int) - c.from_) c.m0 c.m1).am) (cutL b (nextR last ((c.to_ : Int) - c.from_) c.m0 c.m1).bf (nextR last ((c.to_ : Int) - c.from_) c.m0 c.m1).bm) }])
      c.to_ (A + (((c.to_ - p : Nat) : Int) + c.m0).toNat) (B + (((c.to_ - p : Nat) : Int) + c.m1).toNat) l' r' := by
  have h1 := h.po; have h2 := h.pa; have h3 := h.pb; have q1 := h.g1; have q2 := h.g2; have q3 := h.g3; have w1 := h.lo; have w2 := h.la; have w3 := h.lb
  have t1 := hd.to1; have t2 := hd.to2; have fr := hd.fr
  obtain ⟨s1, s2, s3, s4⟩ := hd.sa
  obtain ⟨z1, z2, z3, z4⟩ := hd.sb
  rw [List.length_drop] at t2 s1 s3 z1 z3
  obtain ⟨n, hn⟩ : ∃ n, c.to_ - p = n := ⟨_, rfl⟩
  rw [hn] at s1 s2 s3 s4 z1 z2 z3 z4 ⊢
  obtain ⟨u, hu⟩ : ∃ u, ((n : Int) + c.m0).toNat = u := ⟨_, rfl⟩
  obtain ⟨v, hv⟩ : ∃ v, ((n : Int) + c.m1).toNat = v := ⟨_, rfl⟩
  rw [hu, List.drop_drop, List.drop_drop, show p + n = c.to_ from by omega] at s4
  rw [hv, List.drop_drop, List.drop_drop, show p + n = c.to_ from by omega] at z4
  rw [hu, hv]
  have hna := hd.na; have hnb := hd.nb
  rw [hn] at hna hnb
  have e0 : (c.to_ : Int) - c.from_ = n := by omega
  have e1 : (n : Int) + c.m0 = u := by omega
  have e2 : (n : Int) + c.m1 = v := by omega
  have eo : cutL o (last.of + last.om) n = (o.drop p).take n := by rw [h1, cut_nat]
  have ea : cutL a (last.af + last.am) (n + c.m0) = (a.drop A).take u := by rw [h2, e1, cut_nat]
  have eb : cutL b (last.bf + last.bm) (n + c.m1) = (b.drop B).take v := by rw [h3, e2, cut_nat]
  rw [e0]
  simp only [nextR]
  rw [ea, eb]
  refine ⟨?_, ?_, ?_, ?_, ?_, ?_, by omega, by omega, by omega, s4, z4, ?_, ?_, ?_, ?_⟩
  · simp only []; omega
  · simp only []; omega
  · simp only []; omega
  · simp only []; omega
  · simp only []; omega
  · simp only []; omega
  · rw [List.flatMap_append, h.fo]
    simp only [List.flatMap_cons, List.flatMap_nil, List.append_nil]
    rw [eo, take_glue, show p + n = c.to_ from by omega]
  · rw [List.flatMap_append, h.fa]
    simp only [List.flatMap_cons, List.flatMap_nil, List.append_nil]
    rw [ea, take_glue]
  · rw [List.flatMap_append, h.fb]
    simp only [List.flatMap_cons, List.flatMap_nil, List.append_nil]
    rw [eb, take_glue]
  · intro x hx
    rcases List.mem_append.1 hx with hx | hx
    · exact h.ok x hx
    · rw [List.mem_singleton.1 hx]
      have hk : kindOf c ((a.drop A).take u) ((b.drop B).take v) = 0 ∨ kindOf c ((a.drop A).take u) ((b.drop B).take v) = 1 ∨ kindOf c ((a.drop A).take u) ((b.drop B).take v) = 2 ∨ kindOf c ((a.drop A).take u) ((b.drop B).take v) = 3 ∨ kindOf c ((a.drop A).take u) ((b.drop B).take v) = 4 := by
        unfold kindOf
        split
        · simp
        · split
          · simp
          · split <;> simp
      have hk0 : kindOf c ((a.drop A).take u) ((b.drop B).take v) ≠ 0 := by
        unfold kindOf
        split
        · simp
        · split
          · simp
          · split <;> simp
      have hk1 : kindOf c ((a.drop A).take u) ((b.drop B).take v) = 1 → c.h1 = false := by
        unfold kindOf
        split
        · intro _; assumption
        · split
          · simp
          · split <;> simp
      have hk2 : kindOf c ((a.drop A).take u) ((b.drop B).take v) = 2 → c.h0 = false := by
        unfold kindOf
        split
        · simp
        · split
          · intro _; assumption
          · split <;> simp
      have hk3 : kindOf c ((a.drop A).take u) ((b.drop B).take v) = 3 → (a.drop A).take u = (b.drop B).take v := by
        unfold kindOf
        split
        · simp
        · split
          · simp
          · split
            · intro _; assumption
            · simp
      have hk4 : kindOf c ((a.drop A).take u) ((b.drop B).take v) = 4 → (a.drop A).take u ≠ (b.drop B).take v := by
        unfold kindOf
        split
        · simp
        · split
          · simp
          · split
            · simp
            · intro _; assumption
      obtain ⟨kk, hkk⟩ : ∃ kk, kindOf c ((a.drop A).take u) ((b.drop B).take v) = kk := ⟨_, rfl⟩
      rw [hkk] at hk hk0 hk1 hk2 hk3 hk4 ⊢
      refine ⟨⟨hk, ?_, ?_, ?_⟩, fun h => absurd h hk0, fun h => ?_, fun h => ?_, fun h => ?_, fun h => ?_⟩
      · simp only []; omega
      · simp only []; omega
      · simp only []; omega
      · simp only []
        rw [eo, eb]
        obtain ⟨m1, m2⟩ := hnb (hk1 h)
        rw [m2, show v = n from by omega]
      · simp only []
        rw [eo, ea]
        obtain ⟨m1, m2⟩ := hna (hk2 h)
        rw [m2, show u = n from by omega]
      · simp only []
        rw [ea, eb]
        exact hk3 h
      · simp only []
        rw [ea, eb]
        exact hk4 h
end

end Go.Proofs.YtekeiieefkgopaaDoor.Pc
