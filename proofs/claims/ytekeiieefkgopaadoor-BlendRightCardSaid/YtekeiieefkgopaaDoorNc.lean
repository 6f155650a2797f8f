/- Edits that meet, by lists; how edits lie in memory while they are read. -/
import Derived.Test.YtekeiieefkgopaaDoorNb
namespace Go.Proofs.YtekeiieefkgopaaDoor.Nc
open Go.RowKit Go.Proofs.YtekeiieefkgopaaDoor.Aa Go.Proofs.YtekeiieefkgopaaDoor.Vw Go.Proofs.YtekeiieefkgopaaDoor.Ma Go.Proofs.YtekeiieefkgopaaDoor.Mr Go.Proofs.YtekeiieefkgopaaDoor.Mb Go.Proofs.YtekeiieefkgopaaDoor.Mc Go.Proofs.YtekeiieefkgopaaDoor.Me Go.Proofs.YtekeiieefkgopaaDoor.Mf Go.Proofs.YtekeiieefkgopaaDoor.Mg Go.Proofs.YtekeiieefkgopaaDoor.Mh Go.Proofs.YtekeiieefkgopaaDoor.Mi Go.Proofs.YtekeiieefkgopaaDoor.Mt Go.Proofs.YtekeiieefkgopaaDoor.Na Go.Proofs.YtekeiieefkgopaaDoor.Nb
set_option linter.unusedVariables false

def Clu.add0 (c : Clu) (e : EditP) : Clu := Clu.take0 c e.at_ e.del e.ins.length
def Clu.add1 (c : Clu) (e : EditP) : Clu := Clu.take1 c e.at_ e.del e.ins.length
/-- A cluster takes all that meet it; what is left on either side. -/
def meets (c : Clu) : List EditP → List EditP → Clu × List EditP × List EditP
  | e :: l, [] => if e.at_ ≤ c.to_ then meets (Clu.add0 c e) l [] else (c, e :: l, [])
  | e :: l, f :: r => if e.at_ ≤ c.to_ then meets (Clu.add0 c e) l (f :: r) else if f.at_ ≤ c.to_ then meets (Clu.add1 c f) (e :: l) r else (c, e :: l, f :: r)
  | [], f :: r => if f.at_ ≤ c.to_ then meets (Clu.add1 c f) [] r else (c, [], f :: r)
  | [], [] => (c, [], [])
termination_by l r => l.length + r.length
/-- Where the next cluster begins. -/
def startAt : List EditP → List EditP → Nat
  | e :: _, [] => e.at_
  | e :: _, f :: _ => if f.at_ < e.at_ then f.at_ else e.at_
  | [], f :: _ => f.at_
  | [], [] => 0
def firstC (l r : List EditP) : Clu × List EditP × List EditP := meets ⟨startAt l r, startAt l r, 0, 0, false, false⟩ l r
/-- All clusters. -/
def clus : Nat → List EditP → List EditP → List Clu
  | 0, _, _ => []
  | n + 1, l, r => if l = [] ∧ r = [] then [] else (firstC l r).1 :: clus n (firstC l r).2.1 (firstC l r).2.2

theorem meets_le (c : Clu) (l r : List EditP) : (meets c l r).2.1.length + (meets c l r).2.2.length ≤ l.length + r.length := by
  induction c, l, r using meets.induct with
  | case1 c e l h ih => rw [meets, if_pos h]; simp at *; omega
  | case2 c e l h => rw [meets, if_neg h]; simp
  | case3 c e l f r h ih => rw [meets, if_pos h]; simp at *; omega
  | case4 c e l f r h h2 ih => rw [meets, if_neg h, if_pos h2]; simp at *; omega
  | case5 c e l f r h h2 => rw [meets, if_neg h, if_neg h2]; simp
  | case6 c f r h ih => rw [meets, if_pos h]; simp at *; omega
  | case7 c f r h => rw [meets, if_neg h]; simp
  | case8 => rw [meets]; simp
theorem firstC_lt (l r : List EditP) (h : ¬ (l = [] ∧ r = [])) : (firstC l r).2.1.length + (firstC l r).2.2.length < l.length + r.length := by
  unfold firstC
  cases l with
  | nil =>
    cases r with
    | nil => exact absurd ⟨rfl, rfl⟩ h
    | cons f r =>
      rw [meets, if_pos (by simp [startAt])]
      have := meets_le (Clu.add1 ⟨startAt [] (f :: r), startAt [] (f :: r), 0, 0, false, false⟩ f) [] r
      simp at *; omega
  | cons e l =>
    cases r with
    | nil =>
      rw [meets, if_pos (by simp [startAt])]
      have := meets_le (Clu.add0 ⟨startAt (e :: l) [], startAt (e :: l) [], 0, 0, false, false⟩ e) l []
      simp at *; omega
    | cons f r =>
      rw [meets]
      split
      · have := meets_le (Clu.add0 ⟨startAt (e :: l) (f :: r), startAt (e :: l) (f :: r), 0, 0, false, false⟩ e) l (f :: r)
        simp at *; omega
      · rename_i hn
        rw [if_pos (by simp only [startAt] at hn ⊢; split at hn <;> simp_all)]
        have := meets_le (Clu.add1 ⟨startAt (e :: l) (f :: r), startAt (e :: l) (f :: r), 0, 0, false, false⟩ f) (e :: l) r
        simp at *; omega

/-- How many lines go and come. -/
def wt : List EditP → Nat
  | [] => 0
  | e :: l => e.del + e.ins.length + wt l
structure SmallE (l : List EditP) : Prop where
  at_ : ∀ e ∈ l, e.at_ ≤ 100000000
  wt : wt l ≤ 100000000
  len : l.length ≤ 100000000
theorem SmallE.tail {e : EditP} {l : List EditP} (h : SmallE (e :: l)) : SmallE l :=
  ⟨fun x hx => h.at_ x (List.mem_cons_of_mem _ hx), by have := h.wt; simp [Nc.wt] at this; omega, by have := h.len; simp at this; omega⟩
theorem SmallE.head {e : EditP} {l : List EditP} (h : SmallE (e :: l)) : e.at_ ≤ 100000000 ∧ e.del ≤ 100000000 ∧ e.ins.length ≤ 100000000 := by
  have h1 := h.at_ e (List.mem_cons_self ..)
  have := h.wt; simp [Nc.wt] at this; omega
/-- Nothing wraps while all is taken. -/
structure Bnd (c : Clu) (l r : List EditP) : Prop where
  sl : SmallE l
  sr : SmallE r
  m0 : -100000000 ≤ c.m0 - wt l ∧ c.m0 + wt l ≤ 100000000
  m1 : -100000000 ≤ c.m1 - wt r ∧ c.m1 + wt r ≤ 100000000
theorem Bnd.start {l r : List EditP} (h : SmallE l) (k : SmallE r) (s : Nat) : Bnd ⟨s, s, 0, 0, false, false⟩ l r := by
  have := h.wt; have := k.wt
  exact ⟨h, k, by simp; omega, by simp; omega⟩
theorem Bnd.take0 {c : Clu} {e : EditP} {l r : List EditP} (h : Bnd c (e :: l) r) : Bnd (Clu.add0 c e) l r := by
  have h1 := h.m0; have h2 := h.m1
  refine ⟨h.sl.tail, h.sr, ?_, h2⟩
  simp [Nc.wt, Clu.add0, Clu.take0] at *
  omega
theorem Bnd.take1 {c : Clu} {e : EditP} {l r : List EditP} (h : Bnd c l (e :: r)) : Bnd (Clu.add1 c e) l r := by
  have h1 := h.m0; have h2 := h.m1
  refine ⟨h.sl, h.sr.tail, h1, ?_⟩
  simp [Nc.wt, Clu.add1, Clu.take1] at *
  omega

theorem cell_keep {S : Nat → Prop} {w w' : World} (h : Ch S w w') {a : Addr} {v : Value} (hS : ¬ S a.block) (hc : w.cell? a = some v) : w'.cell? a = some v := by
  have hb := h.block a.block (World.block_lt_of_cell? w a hc) hS
  unfold World.cell? at hc ⊢
  rw [hb]; exact hc

/-- Edits that are read: in blocks of Fx. -/
def ES (Fx : Nat → Prop) (w : World) (l : List EditP) (v : Value) : Prop :=
  ∃ A c, v = .slice A l.length c ∧ l.length ≤ c ∧ c ≤ maxLen ∧ ∀ i e, l[i]? = some e → ∃ gb off A' c', A = some ⟨gb, off, none⟩ ∧ Fx gb ∧ w.cell? ⟨gb, off + i * 3, none⟩ = some (.int .i64 e.at_) ∧ w.cell? ⟨gb, off + i * 3 + 1, none⟩ = some (.int .i64 e.del) ∧ w.cell? ⟨gb, off + i * 3 + 2, none⟩ = some (.slice A' e.ins.length c')
section
variable {Fx : Nat → Prop} {w w' : World} {l : List EditP} {e : EditP} {v : Value}
theorem ES.keep {S : Nat → Prop} (h : ES Fx w l v) (hc : Ch S w w') (hS : ∀ k, Fx k → ¬ S k) : ES Fx w' l v := by
  obtain ⟨A, c, h1, h2, h3, h4⟩ := h
  refine ⟨A, c, h1, h2, h3, fun i e he => ?_⟩
  obtain ⟨gb, off, A', c', a1, a2, a3, a4, a5⟩ := h4 i e he
  exact ⟨gb, off, A', c', a1, a2, cell_keep hc (hS _ a2) a3, cell_keep hc (hS _ a2) a4, cell_keep hc (hS _ a2) a5⟩
theorem ES.nil (h : ES Fx w [] v) : ∃ A c, v = .slice A 0 c := by
  obtain ⟨A, c, h1, _⟩ := h; exact ⟨A, c, h1⟩
theorem ES.head (h : ES Fx w (e :: l) v) : ∃ gb off c A' c', v = .slice (some ⟨gb, off, none⟩) (l.length + 1) c ∧ w.cell? ⟨gb, off, none⟩ = some (.int .i64 e.at_) ∧ w.cell? ⟨gb, off + 1, none⟩ = some (.int .i64 e.del) ∧ w.cell? ⟨gb, off + 2, none⟩ = some (.slice A' e.ins.length c') ∧ Fx gb := by
  obtain ⟨A, c, h1, h2, h3, h4⟩ := h
  obtain ⟨gb, off, A', c', rfl, a2, a3, a4, a5⟩ := h4 0 e rfl
  exact ⟨gb, off, c, A', c', h1, by simpa using a3, by simpa using a4, by simpa using a5, a2⟩
theorem ES.tail (h : ES Fx w (e :: l) v) : ∃ v', (∀ W : World, (Instr.slice 160 v (some (.int .i64 1)) none none).run Tryd.prog W = .ok v' W) ∧ ES Fx w l v' := by
  obtain ⟨A, c, rfl, h2, h3, h4⟩ := h
  obtain ⟨i0, hi, hz0, hz1, hz2⟩ := info_parts infoEdit
  refine ⟨.slice (if c = 1 then A else A.map (·.add 3)) l.length (c - 1), fun W => ?_, _, c - 1, rfl, by simp at h2; omega, by omega, fun i x hx => ?_⟩
  · have hel : (Tryd.prog).elem 160 = 188 := by simp [Program.elem, Tryd.underlying160]
    have hu : (Tryd.prog).underlying 160 = some (.slice ((Tryd.prog).elem 160)) := by rw [hel]; exact Tryd.underlying160
    rw [run_slice_l W 160 A (e :: l).length c hu .i64 1 (by omega) (by simp; omega), hel]
    simp [sizeOf, typeInfo, hi, hz1, sliced, Result.andThen]
  · have hlt := (List.getElem?_eq_some_iff.1 hx).1
    obtain ⟨gb, off, A', c', rfl, a2, a3, a4, a5⟩ := h4 (i + 1) x (by simpa using hx)
    simp at h2
    rw [if_neg (by omega)]
    refine ⟨gb, off + 3, A', c', by simp [Addr.add], a2, ?_, ?_, ?_⟩
    · rw [show off + 3 + i * 3 = off + (i + 1) * 3 from by omega]; exact a3
    · rw [show off + 3 + i * 3 = off + (i + 1) * 3 from by omega]; exact a4
    · rw [show off + 3 + i * 3 = off + (i + 1) * 3 from by omega]; exact a5
theorem ES.of_eo {B : Nat} (h : EO w B v l) (hF : ∀ k, B ≤ k → k < w.heap.size → Fx k) (hs : ∀ e ∈ l, True) : ES Fx w l v := by
  rcases h with ⟨rfl, rfl⟩ | ⟨g, cap, svs, rfl, hb⟩
  · exact ⟨none, 0, rfl, Nat.le_refl _, by unfold maxLen; omega, fun i e he => by simp at he⟩
  · obtain ⟨cur, h1, h2, h3⟩ := hb.blk
    refine ⟨_, cap, rfl, hb.le, hb.max, fun i e he => ?_⟩
    obtain ⟨a1, a2, a3⟩ := h3 i e he
    obtain ⟨A', n, c', hsv⟩ := own_slice (hb.own i e he)
    have hn : n = e.ins.length := by
      have := hb.own i e he
      rw [hsv] at this
      obtain ⟨A2, c2, h5, _⟩ := El.Row.of_own this
      injection h5
    rw [hsv, hn] at a3
    refine ⟨g, 0, A', c', rfl, hF g hb.ge (blk_lt' h1), ?_, ?_, ?_⟩
    · rw [Nat.zero_add]; exact (bCell h1 _).trans a1
    · rw [Nat.zero_add]; exact (bCell h1 _).trans a2
    · rw [Nat.zero_add]; exact (bCell h1 _).trans a3
end

end Go.Proofs.YtekeiieefkgopaaDoor.Nc
