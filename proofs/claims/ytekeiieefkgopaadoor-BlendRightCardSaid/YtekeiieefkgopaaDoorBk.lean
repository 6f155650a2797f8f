/- blend.Trees: walked. -/
import Derived.Test.YtekeiieefkgopaaDoorBi
import Derived.Test.YtekeiieefkgopaaDoorBd
import Derived.Test.YtekeiieefkgopaaDoorBh
import Derived.Test.YtekeiieefkgopaaDoorMu
import Derived.Test.YtekeiieefkgopaaDoorBb
namespace Go.Proofs.YtekeiieefkgopaaDoor.Bk
open Go.RowKit Go.Proofs.YtekeiieefkgopaaDoor.Aa Go.Proofs.YtekeiieefkgopaaDoor.Vw Go.Proofs.YtekeiieefkgopaaDoor.Ma Go.Proofs.YtekeiieefkgopaaDoor.Nh Go.Proofs.YtekeiieefkgopaaDoor.Mb Go.Proofs.YtekeiieefkgopaaDoor.Mr Go.Proofs.YtekeiieefkgopaaDoor.Mc Go.Proofs.YtekeiieefkgopaaDoor.Mj Go.Proofs.YtekeiieefkgopaaDoor.Na Go.Proofs.YtekeiieefkgopaaDoor.Nb Go.Proofs.YtekeiieefkgopaaDoor.Ne Go.Proofs.YtekeiieefkgopaaDoor.No Go.Proofs.YtekeiieefkgopaaDoor.Np Go.Proofs.YtekeiieefkgopaaDoor.Nq Go.Proofs.YtekeiieefkgopaaDoor.Ba Go.Proofs.YtekeiieefkgopaaDoor.Bc Go.Proofs.YtekeiieefkgopaaDoor.Bd Go.Proofs.YtekeiieefkgopaaDoor.Bh Go.Proofs.YtekeiieefkgopaaDoor.Bi Go.Proofs.YtekeiieefkgopaaDoor.Ng Go.Proofs.YtekeiieefkgopaaDoor.Bb
attribute [local go_sem] Oper.semAt_some
set_option linter.unusedVariables false
set_option linter.unusedSimpArgs false

def fcells (t : List Fl) : List Value := t.flatMap fun f => [.string f.path, .string f.text]
theorem fcells_len (t : List Fl) : (fcells t).length = t.length * 2 := by
  induction t with
  | nil => rfl
  | cons f t ih => simp only [fcells, List.flatMap_cons, List.length_append, List.length_cons, List.length_nil] at ih ⊢; omega
/-- A slice of files that is ours. -/
abbrev OwnT (w : World) (B : Nat) (v : Value) (t : List Fl) : Prop := w.ownsRow B 31 2 v t.length (fcells t)

theorem own_more {w : World} {B : Nat} {v : Value} {t : List Fl} {x s : ByteArray} (h : w.ownsRow B 31 2 v (t.length + 1) (fcells t ++ [.string x, .string s])) : OwnT w B v (t ++ [⟨x, s⟩]) := by
  have e : fcells (t ++ [⟨x, s⟩]) = fcells t ++ [.string x, .string s] := by simp [fcells]
  unfold OwnT
  rw [e, List.length_append]
  exact h

theorem own_more2 {w : World} {B : Nat} {v : Value} {t : List ByteArray} {x : ByteArray} (h : w.ownsRow B 9 1 v (t.length + 1) (t.map Value.string ++ [.string x])) : OwnS w B v (t ++ [x]) := by
  unfold OwnS
  rw [List.length_append, List.map_append]
  exact h

/-- What is known of region 5's values: those that are known; the block that is made; the block that is filled. -/
def GT (L : List (Option Value)) (B : Nat) (s : ByteArray) (i : Bool) (vs : Nat → Value) (k : Nat) (W : World) : Prop :=
  if k = 13 then ∃ b, B ≤ b ∧ vs 13 = .pointer (some ⟨b, 0, none⟩) ∧ ∃ c0 c1, W.heap[b]? = some (.cells #[c0, c1] 59 (0, 0))
  else if k = 14 then ∃ b, B ≤ b ∧ vs 13 = .pointer (some ⟨b, 0, none⟩) ∧ W.heap[b]? = some (.cells #[.string s, .bool i] 59 (0, 0))
  else match L[k]? with | some (some u) => vs k = u | _ => True
section
variable {L : List (Option Value)} {B : Nat} {s : ByteArray} {i : Bool} {vs : Nat → Value} {k : Nat} {W : World}
theorem gt_at {u : Value} (h : L[k]? = some (some u)) (h1 : k ≠ 13) (h2 : k ≠ 14) (hg : GT L B s i vs k W) : vs k = u := by
  unfold GT at hg
  rw [if_neg h1, if_neg h2, h] at hg
  exact hg
theorem gt_mk {u : Value} (h : L[k]? = some (some u)) (h1 : k ≠ 13) (h2 : k ≠ 14) (hg : vs k = u) : GT L B s i vs k W := by
  unfold GT
  rw [if_neg h1, if_neg h2, h]
  exact hg
theorem gt_put {u v : Value} (h : L[k]? = some (some u)) (h1 : k ≠ 13) (h2 : k ≠ 14) (hv : v = u) : GT L B s i (Mu.put vs k v) k W := gt_mk h h1 h2 (by unfold Mu.put; rw [if_pos rfl]; exact hv)
theorem gt_st {W' : World} (h : GT L B s i vs k W) (hc : Ch no W W') : GT L B s i vs k W' := by
  unfold GT at *
  split
  · rename_i hk
    rw [if_pos hk] at h
    obtain ⟨b, h1, h2, c0, c1, h3⟩ := h
    exact ⟨b, h1, h2, c0, c1, hc.blk h3 (no_not _)⟩
  · rename_i hk
    rw [if_neg hk] at h
    split
    · rename_i hk2
      rw [if_pos hk2] at h
      obtain ⟨b, h1, h2, h3⟩ := h
      exact ⟨b, h1, h2, hc.blk h3 (no_not _)⟩
    · rename_i hk2
      rw [if_neg hk2] at h
      exact h
theorem gt_dep {ops : Array Oper} {vs' : Nat → Value} (h14 : ((ops[14]?).any fun o => o.after.any fun e => e.on == 13 && Region.binds .any e) = true) (h : vs k = vs' k)
    (hd : ∀ o, ops[k]? = some o → ∀ e ∈ o.after, Region.binds .any e = true → vs e.on = vs' e.on) (hg : GT L B s i vs k W) : GT L B s i vs' k W := by
  unfold GT at *
  split
  · rename_i hk
    subst hk
    rw [if_pos rfl] at hg
    rw [← h]
    exact hg
  · rename_i hk
    rw [if_neg hk] at hg
    split
    · rename_i hk2
      subst hk2
      rw [if_pos rfl] at hg
      cases ho : ops[14]? with
      | none => rw [ho] at h14; cases h14
      | some o =>
        rw [ho] at h14
        obtain ⟨j, hj, hb⟩ := Array.any_eq_true.1 h14
        simp only [Bool.and_eq_true, beq_iff_eq] at hb
        have := hd o ho _ (Array.getElem_mem hj) hb.2
        rw [hb.1] at this
        rw [← this]
        exact hg
    · rename_i hk2
      rw [if_neg hk2] at hg
      rw [← h]
      exact hg
end

/-- Trees in the making. -/
structure TI (w X : World) (g N : Nat) (o a b : List Fl) (Ao Aa Ab : Option Addr) (co ca cb : Nat) (vo vd : Value) (n : Nat) (s : List Fl × List ByteArray) : Prop where
  ch : Ch no w X
  hg : w.heap.size = g
  b0 : X.heap[g]? = some (.cells #[.slice Ao o.length co] 22 (0, 0))
  b1 : X.heap[g + 1]? = some (.cells #[.slice Aa a.length ca] 22 (0, 0))
  b2 : X.heap[g + 1 + 1]? = some (.cells #[.slice Ab b.length cb] 22 (0, 0))
  b3 : X.heap[g + 1 + 1 + 1]? = some (.cells #[vo] 22 (0, 0))
  b4 : X.heap[g + 1 + 1 + 1 + 1]? = some (.cells #[vd] 25 (0, 0))
  o1 : OwnT X (N + 2) vo s.1
  o2 : OwnS X (N + 2) vd s.2
  l1 : s.1.length ≤ 1000
  l2 : s.2.length ≤ n
section
variable {w X Y : World} {g N : Nat} {o a b : List Fl} {Ao Aa Ab : Option Addr} {co ca cb : Nat} {vo vd : Value} {n : Nat} {s : List Fl × List ByteArray}
theorem TI.keep (h : TI w X g N o a b Ao Aa Ab co ca cb vo vd n s) {S : Nat → Prop} (hc : Ch S X Y) (h0 : ∀ k, S k → g + 5 ≤ k) (h1 : ∀ k, S k → N + 2 ≤ k → vo.ownBlock ≠ some k ∧ vd.ownBlock ≠ some k) : TI w Y g N o a b Ao Aa Ab co ca cb vo vd n s := by
  refine ⟨?_, h.hg, hc.blk h.b0 (fun e => by have := h0 _ e; omega), hc.blk h.b1 (fun e => by have := h0 _ e; omega), hc.blk h.b2 (fun e => by have := h0 _ e; omega), hc.blk h.b3 (fun e => by have := h0 _ e; omega), hc.blk h.b4 (fun e => by have := h0 _ e; omega), own_ch h.o1 hc ?_, own_ch h.o2 hc ?_, h.l1, h.l2⟩
  · have hw := h.hg
    exact h.ch.trans hc (fun k hk hs => by have := h0 k hs; omega)
  · intro k hk hs
    exact (h1 k hs (own_ge h.o1 k hk)).1 hk
  · intro k hk hs
    exact (h1 k hs (own_ge h.o2 k hk)).2 hk
/-- The two slices' blocks are two. -/
theorem TI.two (h : TI w X g N o a b Ao Aa Ab co ca cb vo vd n s) (k : Nat) (h1 : vo.ownBlock = some k) : vd.ownBlock ≠ some k := by
  intro h2
  obtain ⟨_, ⟨rfl, _⟩ | ⟨g1, cap1, cur1, rfl, hb1, hg1, _⟩⟩ := h.o1
  · simp [Value.ownBlock] at h1
  obtain ⟨_, ⟨rfl, _⟩ | ⟨g2, cap2, cur2, rfl, hb2, hg2, _⟩⟩ := h.o2
  · simp [Value.ownBlock] at h2
  simp only [Value.ownBlock, Option.some.injEq] at h1 h2
  subst h1; subst h2
  rw [hg1] at hg2
  exact absurd hg2 (by simp)
/-- A file more. -/
theorem TI.more1 (h : TI w X g N o a b Ao Aa Ab co ca cb vo vd n s) {W : World} {v' : Value} {f : Fl} (hc : Ch (fun k => some k = vo.ownBlock) X W) (ho : OwnT W (N + 2) v' (s.1 ++ [f])) (hN : g + 5 ≤ N) (hl : s.1.length < 1000) :
    TI w (W.setCell ⟨g + 1 + 1 + 1, 0, none⟩ v') g N o a b Ao Aa Ab co ca cb v' vd n (s.1 ++ [f], s.2) := by
  have hge := own_ge h.o1
  have hne : ∀ j, j < N + 2 → ¬ some j = vo.ownBlock := fun j hj e => by have := hge j e.symm; omega
  have hs := Ch.set1 W (g + 1 + 1 + 1) 0 v'
  have hw := h.hg
  refine ⟨?_, h.hg, hs.blk (hc.blk h.b0 (hne _ (by omega))) (fun e => by have e' : g = g + 1 + 1 + 1 := e; omega), hs.blk (hc.blk h.b1 (hne _ (by omega))) (fun e => by have e' : g + 1 = g + 1 + 1 + 1 := e; omega), hs.blk (hc.blk h.b2 (hne _ (by omega))) (fun e => by have e' : g + 1 + 1 = g + 1 + 1 + 1 := e; omega), bSet (hc.blk h.b3 (hne _ (by omega))) 0 v', hs.blk (hc.blk h.b4 (hne _ (by omega))) (fun e => by have e' : g + 1 + 1 + 1 + 1 = g + 1 + 1 + 1 := e; omega), own_ch ho hs ?_, own_ch (own_ch h.o2 hc ?_) hs ?_, ?_, h.l2⟩
  · refine (h.ch.trans hc (fun k hk e => ?_)).trans hs (fun k hk e => ?_)
    · have := hge k e.symm; omega
    · have e' : k = g + 1 + 1 + 1 := e; omega
  · intro k hk e
    have := own_ge ho k hk
    have e' : k = g + 1 + 1 + 1 := e
    omega
  · intro k hk e
    exact h.two k e.symm hk
  · intro k hk e
    have := own_ge h.o2 k hk
    have e' : k = g + 1 + 1 + 1 := e
    omega
  · simp; omega
/-- A clash more. -/
theorem TI.more2 (h : TI w X g N o a b Ao Aa Ab co ca cb vo vd n s) {W : World} {v' : Value} {p : ByteArray} (hc : Ch (fun k => some k = vd.ownBlock) X W) (ho : OwnS W (N + 2) v' (s.2 ++ [p])) (hN : g + 5 ≤ N) :
    TI w (W.setCell ⟨g + 1 + 1 + 1 + 1, 0, none⟩ v') g N o a b Ao Aa Ab co ca cb vo v' (n + 1) (s.1, s.2 ++ [p]) := by
  have hge := own_ge h.o2
  have hne : ∀ j, j < N + 2 → ¬ some j = vd.ownBlock := fun j hj e => by have := hge j e.symm; omega
  have hs := Ch.set1 W (g + 1 + 1 + 1 + 1) 0 v'
  have hw := h.hg
  refine ⟨?_, h.hg, hs.blk (hc.blk h.b0 (hne _ (by omega))) (fun e => by have e' : g = g + 1 + 1 + 1 + 1 := e; omega), hs.blk (hc.blk h.b1 (hne _ (by omega))) (fun e => by have e' : g + 1 = g + 1 + 1 + 1 + 1 := e; omega), hs.blk (hc.blk h.b2 (hne _ (by omega))) (fun e => by have e' : g + 1 + 1 = g + 1 + 1 + 1 + 1 := e; omega), hs.blk (hc.blk h.b3 (hne _ (by omega))) (fun e => by have e' : g + 1 + 1 + 1 = g + 1 + 1 + 1 + 1 := e; omega), bSet (hc.blk h.b4 (hne _ (by omega))) 0 v', own_ch (own_ch h.o1 hc ?_) hs ?_, own_ch ho hs ?_, h.l1, ?_⟩
  · refine (h.ch.trans hc (fun k hk e => ?_)).trans hs (fun k hk e => ?_)
    · have := hge k e.symm; omega
    · have e' : k = g + 1 + 1 + 1 + 1 := e; omega
  · intro k hk e
    exact h.two k hk e.symm
  · intro k hk e
    have := own_ge h.o1 k hk
    have e' : k = g + 1 + 1 + 1 + 1 := e
    omega
  · intro k hk e
    have := own_ge ho k hk
    have e' : k = g + 1 + 1 + 1 + 1 := e
    omega
  · have := h.l2
    simp; omega
theorem TI.noS (h : TI w X g N o a b Ao Aa Ab co ca cb vo vd n s) (hc : Ch no X Y) : TI w Y g N o a b Ao Aa Ab co ca cb vo vd n s := h.keep hc (fun k h => h.elim) (fun k h => h.elim)
abbrev VV (g N : Nat) : Nat → Prop := fun k => k = g + 1 + 1 + 1 ∨ k = g + 1 + 1 + 1 + 1 ∨ N + 2 ≤ k
theorem vv_odd {W w1 : World} {u : Obj} (v : Value) (hc : Ch (VV g N) X W) (hgr : Ch (fun k => some k = vd.ownBlock) (W.alloc u) w1) (hge : ∀ k, vd.ownBlock = some k → N + 2 ≤ k) : Ch (VV g N) X (w1.setCell ⟨g + 1 + 1 + 1 + 1, 0, none⟩ v) :=
  ((hc.same ((Ch.refl _ W).alloc u)).same (hgr.mono (fun k h => .inr (.inr (hge k h.symm))))).same ((Ch.set1 w1 (g + 1 + 1 + 1 + 1) 0 v).mono (fun k h => .inr (.inl h)))
theorem vv_out {W w1 : World} {u : Obj} (v : Value) (hc : Ch (VV g N) X W) (hgr : Ch (fun k => some k = vo.ownBlock) (W.alloc u) w1) (hge : ∀ k, vo.ownBlock = some k → N + 2 ≤ k) : Ch (VV g N) X (w1.setCell ⟨g + 1 + 1 + 1, 0, none⟩ v) :=
  ((hc.same ((Ch.refl _ W).alloc u)).same (hgr.mono (fun k h => .inr (.inr (hge k h.symm))))).same ((Ch.set1 w1 (g + 1 + 1 + 1) 0 v).mono (fun k h => .inl h))
theorem news_of (Z : World) (cs : List Value) (ty : TypeId) (j : Nat) (u : Value) (h : cs[j]? = some u) : (Z.alloc (.cells cs.toArray ty)).cell? ((⟨Z.heap.size, 0, none⟩ : Addr).add j) = some u := by
  have e : (⟨Z.heap.size, 0, none⟩ : Addr).add j = ⟨Z.heap.size, j, none⟩ := by cases j <;> simp [Addr.add]
  rw [e, bCell (bNew Z _) j]
  simpa using h
theorem news_at (Z : World) (n : Nat) (hn : Z.heap.size = n) (cs : List Value) (ty : TypeId) (j : Nat) (u : Value) (h : cs[j]? = some u) : (Z.alloc (.cells cs.toArray ty)).cell? ((⟨n, 0, none⟩ : Addr).add j) = some u := by subst hn; exact news_of Z cs ty j u h
theorem TI.up (h : TI w X g N o a b Ao Aa Ab co ca cb vo vd n s) : TI w X g N o a b Ao Aa Ab co ca cb vo vd (n + 1) s := ⟨h.ch, h.hg, h.b0, h.b1, h.b2, h.b3, h.b4, h.o1, h.o2, h.l1, Nat.le_succ_of_le h.l2⟩
end


theorem al5 (w : World) (x y z u v : Obj) : (((((w.alloc x).alloc y).alloc z).alloc u).alloc v).heap[w.heap.size]? = some x ∧ (((((w.alloc x).alloc y).alloc z).alloc u).alloc v).heap[w.heap.size + 1]? = some y ∧ (((((w.alloc x).alloc y).alloc z).alloc u).alloc v).heap[w.heap.size + 1 + 1]? = some z ∧
    (((((w.alloc x).alloc y).alloc z).alloc u).alloc v).heap[w.heap.size + 1 + 1 + 1]? = some u ∧ (((((w.alloc x).alloc y).alloc z).alloc u).alloc v).heap[w.heap.size + 1 + 1 + 1 + 1]? = some v := by
  have h := allocs_get w [x, y, z, u, v]
  simp only [List.foldl_cons, List.foldl_nil] at h
  exact ⟨h 0 x rfl, h 1 y rfl, h 2 z rfl, h 3 u rfl, h 4 v rfl⟩

set_option maxRecDepth 100000 in
set_option maxHeartbeats 16000000 in
theorem trees_of (o a b : List Fl) (Ao Aa Ab : Option Addr) (co ca cb : Nat) (w : World) (ho : file.Row w Ao co o) (ha : file.Row w Aa ca a) (hb : file.Row w Ab cb b) (ro : Rise o) (ra : Rise a) (rb : Rise b)
    (lo : o.length ≤ 1000) (la : a.length ≤ 1000) (lb : b.length ≤ 1000) (HO : ∀ p W, Calls Tryd.prog 36 #[.agg #[.string (ofF o p).text, .bool (ofF o p).is], .agg #[.string (ofF a p).text, .bool (ofF a p).is], .agg #[.string (ofF b p).text, .bool (ofF b p).is]] W (AtP (oneB (ofF o p) (ofF a p) (ofF b p)) W)) :
    Calls Tryd.prog 13 #[.slice Ao o.length co, .slice Aa a.length ca, .slice Ab b.length cb] w fun e w' => ∃ vo vd, e = .returned (.tuple #[vo, vd]) ∧ OwnT w' w.heap.size vo (treesL o a b).1 ∧ OwnS w' w.heap.size vd (treesL o a b).2 ∧ Ch no w w' := by
  obtain ⟨i0, hi, hz0, hz1, hz2⟩ := info_parts infoStr
  obtain ⟨j0, ji, jz0, jz1, jz2⟩ := info_parts infoFile
  have HRO := Lib.hid ho; have HRA := Lib.hid ha; have HRB := Lib.hid hb
  have HOFO := Lib.hid fun p W (h : Ch no w W) => of_of Ao co o p W (ho.ch h) ro (by omega)
  have HOFA := Lib.hid fun p W (h : Ch no w W) => of_of Aa ca a p W (ha.ch h) ra (by omega)
  have HOFB := Lib.hid fun p W (h : Ch no w W) => of_of Ab cb b p W (hb.ch h) rb (by omega)
  have HONE := Lib.hid HO
  have HL : Hid ((pathsL a b).length ≤ 2000) := Lib.hid (by have := paths_len a b; omega)
  clear ho ha hb ro ra rb HO
  obtain ⟨g, hg⟩ : ∃ g, w.heap.size = g := ⟨_, rfl⟩
  have h5 := al5 w (.cells #[.slice Ao o.length co] 22) (.cells #[.slice Aa a.length ca] 22) (.cells #[.slice Ab b.length cb] 22) (.cells #[.slice none 0 0] 22) (.cells #[.slice none 0 0] 25)
  have hsz : (((((w.alloc (.cells #[.slice Ao o.length co] 22)).alloc (.cells #[.slice Aa a.length ca] 22)).alloc (.cells #[.slice Ab b.length cb] 22)).alloc (.cells #[.slice none 0 0] 22)).alloc (.cells #[.slice none 0 0] 25)).heap.size = g + 5 := by simp [hg]
  have hc0 : Ch no w (((((w.alloc (.cells #[.slice Ao o.length co] 22)).alloc (.cells #[.slice Aa a.length ca] 22)).alloc (.cells #[.slice Ab b.length cb] 22)).alloc (.cells #[.slice none 0 0] 22)).alloc (.cells #[.slice none 0 0] 25)) := (((((Ch.refl no w).alloc _).alloc _).alloc _).alloc _).alloc _
  rw [hg] at h5
  obtain ⟨W0, hW0⟩ : ∃ W0, (((((w.alloc (.cells #[.slice Ao o.length co] 22)).alloc (.cells #[.slice Aa a.length ca] 22)).alloc (.cells #[.slice Ab b.length cb] 22)).alloc (.cells #[.slice none 0 0] 22)).alloc (.cells #[.slice none 0 0] 25)) = W0 := ⟨_, rfl⟩
  rw [hW0] at h5 hsz hc0
  have HG := Lib.hid hg; have H5 := Lib.hid h5; have HSZ := Lib.hid hsz; have HC0 := Lib.hid hc0
  have q1 := (bCell h5.2.1 0).trans rfl
  have q2 := (bCell h5.2.2.1 0).trans rfl
  clear hg h5 hsz hc0
  refine (callsIn_wide (n := 9)).1 (callsIn_of_wp_marks Tryd.func13 rfl trivial ?_ rfl)
  simp only [Tryd.ntmps13, List.size_toArray, List.length_cons, List.length_nil, Nat.reduceAdd, Nat.reduceSub, Array.replicate_succ, Array.replicate_zero, List.push_toArray, List.append_toArray, List.nil_append, List.cons_append]
  refine wpIn_wide.2 ?_
  go_upto_region 3 with (fail)
  rw [HG.out]
  have HW0 := Lib.hid hW0
  clear hW0
  go_wp2_with fail

  refine (paths_of Aa Ab a.length b.length ca cb W0).mono ?_
  rintro e W1 ⟨rfl, h1⟩
  rw [HSZ.out] at h1 ⊢
  obtain ⟨p1, p2, hc1⟩ := h1
  clear q1 q2
  obtain ⟨N, hN⟩ : ∃ N, W1.heap.size = N := ⟨_, rfl⟩
  have hNg : g + 7 ≤ N := by have := blk_lt' p2; omega
  have HN := Lib.hid hN; have P1 := Lib.hid p1; have P2 := Lib.hid p2
  have HI0 : Hid (TI w W1 g N o a b Ao Aa Ab co ca cb (.slice none 0 0) (.slice none 0 0) 0 ([], [])) := Lib.hid ⟨HC0.out.same hc1, HG.out, hc1.blk H5.out.1 (no_not _), hc1.blk H5.out.2.1 (no_not _), hc1.blk H5.out.2.2.1 (no_not _), hc1.blk H5.out.2.2.2.1 (no_not _), hc1.blk H5.out.2.2.2.2 (no_not _), ⟨rfl, .inl ⟨rfl, rfl⟩⟩, ⟨rfl, .inl ⟨rfl, rfl⟩⟩, by simp, by simp⟩
  have HC1 : Hid (Ch no w W1) := Lib.hid (HC0.out.same hc1)
  clear hN p1 p2 hc1 HW0 HSZ H5 HC0
  go_wp2_with fail
  refine (wpIn_wide (n := 9)).1 ?_
  refine wpIn_range rfl (by omega) (gf := 61) (lb := #[.pointer (some ⟨g + 5, 0, none⟩), .pointer (some ⟨g + 5 + 1, 0, none⟩)]) rfl trivial (Go.Proofs.enters_of Tryd.func61 (by kernel_rfl) rfl) (encs := fun x : ByteArray => #[.string x]) (T := Two2 (g + 5) (g + 5 + 1)) (V := VV g N) (xs := pathsL a b) ?seq ?hT ?hV (fun _ => rfl)
    (fun pre X => ∃ vo vd, Hid (TI w X g N o a b Ao Aa Ab co ca cb vo vd pre.length (pre.foldl (stepTr o a b) ([], [])))) ?hI ⟨_, _, HI0⟩
    (fun x a' X => a' = { tmps := #[.slice Ao o.length co, .slice Aa a.length ca, .slice Ab b.length cb, .pointer (some ⟨g, 0, none⟩), .pointer (some ⟨g + 1, 0, none⟩), .pointer (some ⟨g + 1 + 1, 0, none⟩), .slice none 0 0, .slice none 0 0, .pointer (some ⟨g + 1 + 1 + 1, 0, none⟩), .pointer (some ⟨g + 1 + 1 + 1 + 1, 0, none⟩), .string x, undef, undef, .slice Aa a.length ca, .slice Ab b.length cb, .func (.func 61) #[] #[.pointer (some ⟨g + 5, 0, none⟩), .pointer (some ⟨g + 5 + 1, 0, none⟩)], .string x, undef, undef, undef, undef, undef, undef, undef, undef, undef, undef, undef, undef, undef, undef, undef, undef, undef, undef, undef, undef, undef, undef, undef, undef, undef, undef, undef, undef, undef, undef, undef, undef, undef, undef], defers := [] }) ?hAx ?assign ?body ?done
  case seq =>
    have hz := HN.out; have hg := HG.out
    exact paths_iter _ (g + 5) (g + 5 + 1) _ a b Aa Ab ca cb w W1 P1.out P2.out HRA.out HRB.out HC1.out (by omega) (by omega) (by rintro k ((h | h | h) | h | h) <;> omega) (by omega) (by omega) (by omega)
  case hT =>
    have hz := HN.out
    rintro k (h | h) <;> omega
  case hV =>
    have hz := HN.out
    rintro k (h | h | h) <;> omega
  case hI =>
    have hz := HN.out; have hg := HG.out
    rintro pre A B ⟨vo, vd, HI⟩ hc
    refine ⟨vo, vd, Lib.hid (HI.out.keep hc ?_ ?_)⟩
    · rintro k ((h | h) | h | h) <;> omega
    · rintro k ((h | h) | h | h) hk <;> omega
  case hAx => exact fun x a' A B h _ => h
  case assign =>
    intro l pre x X K hX hI hK
    gi_wp2_with fail
    exact hK _ _ (Ch.refl _ X) hI rfl
  case body =>
    rintro l pre x a' X hX ⟨vo, vd, HI⟩ rfl ⟨r, hr⟩
    have hpl : pre.length + 1 ≤ 2000 := by
      have := HL.out; rw [hr] at this; simp at this; omega
    clear hr
    obtain ⟨t1, t2, ht⟩ : ∃ t1 t2, pre.foldl (stepTr o a b) ([], []) = (t1, t2) := ⟨_, _, rfl⟩
    have HEND : Hid (∀ (Y : World) (vo' vd' : Value) (s' : List Fl × List ByteArray), TI w Y g N o a b Ao Aa Ab co ca cb vo' vd' (pre.length + 1) s' → stepTr o a b (t1, t2) x = s' →
        ∃ vo vd, Hid (TI w Y g N o a b Ao Aa Ab co ca cb vo vd (pre ++ [x]).length ((pre ++ [x]).foldl (stepTr o a b) ([], [])))) := Lib.hid (by
      rintro Y vo' vd' s' hT rfl
      refine ⟨vo', vd', Lib.hid ?_⟩
      rw [List.foldl_append, ht, List.length_append]
      exact hT)
    rw [ht] at HI
    clear ht
    obtain ⟨Avo, cvo, hvo⟩ := Ne.own_shape HI.out.o1
    simp only [] at hvo
    subst hvo
    have hl2 : t2.length ≤ pre.length := HI.out.l2
    have hl1 : t1.length ≤ 1000 := HI.out.l1
    have HGE1 := Lib.hid (own_ge HI.out.o1); have HGE2 := Lib.hid (own_ge HI.out.o2); have HLT1 := Lib.hid (own_lt HI.out.o1); have HLT2 := Lib.hid (own_lt HI.out.o2)
    obtain ⟨so, io, hro⟩ : ∃ so io, ofF o x = ⟨so, io⟩ := ⟨_, _, rfl⟩
    obtain ⟨sa, ia, hra⟩ : ∃ sa ia, ofF a x = ⟨sa, ia⟩ := ⟨_, _, rfl⟩
    obtain ⟨sb, ib, hrb⟩ : ∃ sb ib, ofF b x = ⟨sb, ib⟩ := ⟨_, _, rfl⟩
    have HFO := Lib.hid (HOFO.out x); have HFA := Lib.hid (HOFA.out x); have HFB := Lib.hid (HOFB.out x); have HF1 := Lib.hid (HONE.out x)
    rw [hro] at HFO
    rw [hra] at HFA
    rw [hrb] at HFB
    rw [hro, hra, hrb] at HF1
    obtain ⟨s, i, cl, hone⟩ : ∃ s i cl, oneB ⟨so, io⟩ ⟨sa, ia⟩ ⟨sb, ib⟩ = (⟨s, i⟩, cl) := ⟨_, _, _, rfl⟩
    rw [hone] at HF1
    have HST : Hid (∀ t, stepTr o a b t x = (if i && decide (t.1.length < 1000) then t.1 ++ [⟨x, s⟩] else t.1, if cl then t.2 ++ [x] else t.2)) := Lib.hid (by intro t; unfold stepTr; rw [hro, hra, hrb, hone])
    clear hro hra hrb hone HOFO HOFA HOFB HONE
    have HXS : Hid (g + 9 ≤ X.heap.size) := Lib.hid (by have := HN.out; omega)
    simp only [] at HFO HFA HFB HF1
    gi_wp2_with fail
    refine Mu.wpIn_region_rel (G := GT [some (.slice Ao o.length co), some (.string x), some (.agg #[.string so, .bool io]), some (.slice Aa a.length ca), some (.string x), some (.agg #[.string sa, .bool ia]), some (.slice Ab b.length cb), some (.string x), some (.agg #[.string sb, .bool ib]), some (.tuple #[.agg #[.string s, .bool i], .bool cl]), some (.tuple #[.agg #[.string s, .bool i], .bool cl]), some (.agg #[.string s, .bool i]), some (.bool cl), none, none, some (.bool cl)] X.heap.size s i) (by kernel_rfl) (by kernel_rfl) (fun ⟨_, _, h⟩ => h) (by kernel_rfl) (fun _ _ _ _ => gt_st) (fun _ _ _ _ => gt_dep (by kernel_rfl)) ?obl ?fin
    case obl =>
      simp only [Mu.Obls, and_true]
      refine ⟨?_, ?_, ?_, ?_, ?_, ?_, ?_, ?_, ?_, ?_, ?_, ?_, ?_, ?_, ?_, ?_⟩
      · intro vs W hW hd
        simp only [fill, List.setIfInBounds_toArray, List.set_cons_zero, List.set_cons_succ]
        have q0 := (bCell (((Ch.refl no X).drew.same hW).blk HI.out.b0 (no_not _)) 0).trans rfl
        clear hd
        go_wp2_with (fail)
        exact ⟨rfl, rfl, Mu.all_ch (Ch.refl no W), .inl (Ch.refl no W), gt_put (k := 0) rfl (by omega) (by omega) rfl⟩
      · intro vs W hW hd
        simp only [fill, List.setIfInBounds_toArray, List.set_cons_zero, List.set_cons_succ]
        clear hd
        go_wp2_with (fail)
        exact ⟨rfl, rfl, Mu.all_ch (Ch.refl no W), .inl (Ch.refl no W), gt_put (k := 1) rfl (by omega) (by omega) rfl⟩
      · intro vs W hW hd
        simp only [fill, List.setIfInBounds_toArray, List.set_cons_zero, List.set_cons_succ]
        have d0 := gt_at (k := 0) rfl (by omega) (by omega) (hd ⟨0, .data⟩ (by simp) rfl)
        have d1 := gt_at (k := 1) rfl (by omega) (by omega) (hd ⟨1, .data⟩ (by simp) rfl)
        rw [d0, d1]
        clear hd d0 d1
        go_wp2_with (refine (HFO.out W (HI.out.ch.same ((Ch.refl no X).drew.same hW))).mono ?_; rintro e w2 ⟨rfl, hch⟩)
        exact ⟨rfl, rfl, Mu.all_ch hch, .inl hch, gt_put (k := 2) rfl (by omega) (by omega) rfl⟩
      · intro vs W hW hd
        simp only [fill, List.setIfInBounds_toArray, List.set_cons_zero, List.set_cons_succ]
        have q0 := (bCell (((Ch.refl no X).drew.same hW).blk HI.out.b1 (no_not _)) 0).trans rfl
        clear hd
        go_wp2_with (fail)
        exact ⟨rfl, rfl, Mu.all_ch (Ch.refl no W), .inl (Ch.refl no W), gt_put (k := 3) rfl (by omega) (by omega) rfl⟩
      · intro vs W hW hd
        simp only [fill, List.setIfInBounds_toArray, List.set_cons_zero, List.set_cons_succ]
        clear hd
        go_wp2_with (fail)
        exact ⟨rfl, rfl, Mu.all_ch (Ch.refl no W), .inl (Ch.refl no W), gt_put (k := 4) rfl (by omega) (by omega) rfl⟩
      · intro vs W hW hd
        simp only [fill, List.setIfInBounds_toArray, List.set_cons_zero, List.set_cons_succ]
        have d3 := gt_at (k := 3) rfl (by omega) (by omega) (hd ⟨3, .data⟩ (by simp) rfl)
        have d4 := gt_at (k := 4) rfl (by omega) (by omega) (hd ⟨4, .data⟩ (by simp) rfl)
        rw [d3, d4]
        clear hd d3 d4
        go_wp2_with (refine (HFA.out W (HI.out.ch.same ((Ch.refl no X).drew.same hW))).mono ?_; rintro e w2 ⟨rfl, hch⟩)
        exact ⟨rfl, rfl, Mu.all_ch hch, .inl hch, gt_put (k := 5) rfl (by omega) (by omega) rfl⟩
      · intro vs W hW hd
        simp only [fill, List.setIfInBounds_toArray, List.set_cons_zero, List.set_cons_succ]
        have q0 := (bCell (((Ch.refl no X).drew.same hW).blk HI.out.b2 (no_not _)) 0).trans rfl
        clear hd
        go_wp2_with (fail)
        exact ⟨rfl, rfl, Mu.all_ch (Ch.refl no W), .inl (Ch.refl no W), gt_put (k := 6) rfl (by omega) (by omega) rfl⟩
      · intro vs W hW hd
        simp only [fill, List.setIfInBounds_toArray, List.set_cons_zero, List.set_cons_succ]
        clear hd
        go_wp2_with (fail)
        exact ⟨rfl, rfl, Mu.all_ch (Ch.refl no W), .inl (Ch.refl no W), gt_put (k := 7) rfl (by omega) (by omega) rfl⟩
      · intro vs W hW hd
        simp only [fill, List.setIfInBounds_toArray, List.set_cons_zero, List.set_cons_succ]
        have d6 := gt_at (k := 6) rfl (by omega) (by omega) (hd ⟨6, .data⟩ (by simp) rfl)
        have d7 := gt_at (k := 7) rfl (by omega) (by omega) (hd ⟨7, .data⟩ (by simp) rfl)
        rw [d6, d7]
        clear hd d6 d7
        go_wp2_with (refine (HFB.out W (HI.out.ch.same ((Ch.refl no X).drew.same hW))).mono ?_; rintro e w2 ⟨rfl, hch⟩)
        exact ⟨rfl, rfl, Mu.all_ch hch, .inl hch, gt_put (k := 8) rfl (by omega) (by omega) rfl⟩
      · intro vs W hW hd
        simp only [fill, List.setIfInBounds_toArray, List.set_cons_zero, List.set_cons_succ]
        have d2 := gt_at (k := 2) rfl (by omega) (by omega) (hd ⟨2, .data⟩ (by simp) rfl)
        have d5 := gt_at (k := 5) rfl (by omega) (by omega) (hd ⟨5, .data⟩ (by simp) rfl)
        have d8 := gt_at (k := 8) rfl (by omega) (by omega) (hd ⟨8, .data⟩ (by simp) rfl)
        rw [d2, d5, d8]
        clear hd d2 d5 d8
        go_wp2_with (refine (HF1.out W).mono ?_; rintro e w2 ⟨rfl, hch⟩)
        exact ⟨rfl, rfl, Mu.all_ch hch, .inl hch, gt_put (k := 9) rfl (by omega) (by omega) rfl⟩
      · intro vs W hW hd
        simp only [fill, List.setIfInBounds_toArray, List.set_cons_zero, List.set_cons_succ]
        have d9 := gt_at (k := 9) rfl (by omega) (by omega) (hd ⟨9, .data⟩ (by simp) rfl)
        rw [d9]
        clear hd d9
        go_wp2_with (fail)
        exact ⟨rfl, rfl, Mu.all_ch (Ch.refl no W), .inl (Ch.refl no W), gt_put (k := 10) rfl (by omega) (by omega) rfl⟩
      · intro vs W hW hd
        simp only [fill, List.setIfInBounds_toArray, List.set_cons_zero, List.set_cons_succ]
        have d10 := gt_at (k := 10) rfl (by omega) (by omega) (hd ⟨10, .data⟩ (by simp) rfl)
        rw [d10]
        clear hd d10
        go_wp2_with (fail)
        exact ⟨rfl, rfl, Mu.all_ch (Ch.refl no W), .inl (Ch.refl no W), gt_put (k := 11) rfl (by omega) (by omega) rfl⟩
      · intro vs W hW hd
        simp only [fill, List.setIfInBounds_toArray, List.set_cons_zero, List.set_cons_succ]
        have d10 := gt_at (k := 10) rfl (by omega) (by omega) (hd ⟨10, .data⟩ (by simp) rfl)
        rw [d10]
        clear hd d10
        go_wp2_with (fail)
        exact ⟨rfl, rfl, Mu.all_ch (Ch.refl no W), .inl (Ch.refl no W), gt_put (k := 12) rfl (by omega) (by omega) rfl⟩
      · intro vs W hW hd
        simp only [fill, List.setIfInBounds_toArray, List.set_cons_zero, List.set_cons_succ]
        clear hd
        go_wp2_with (fail)
        refine ⟨rfl, rfl, Mu.all_ch ((Ch.refl no W).alloc _), .inl ((Ch.refl no W).alloc _), ?_⟩
        unfold GT
        rw [if_pos rfl]
        exact ⟨W.heap.size, hW.size, rfl, _, _, bNew W _⟩
      · intro vs W hW hd
        simp only [fill, List.setIfInBounds_toArray, List.set_cons_zero, List.set_cons_succ]
        have d11 := gt_at (k := 11) rfl (by omega) (by omega) (hd ⟨11, .data⟩ (by simp) rfl)
        have h13 := hd ⟨13, .data⟩ (by simp) rfl
        unfold GT at h13
        rw [if_pos rfl] at h13
        obtain ⟨bb, hbb, hv, e0, e1, hbk⟩ := h13
        rw [d11, hv]
        have HBK := Lib.hid hbk; have HV := Lib.hid hv
        have q0 := (bCell hbk 0).trans rfl
        have q1 := (bCell hbk 1).trans rfl
        have f0 := bFree hbk 0
        have f1 := bFree hbk 1
        clear hd d11 hv hbk
        go_wp2_with (fail)
        have hx := bSet (bSet HBK.out 0 (.string s)) 1 (.bool i)
        simp only [List.setIfInBounds_toArray, List.set_cons_zero, List.set_cons_succ] at hx
        have hch : Ch (one bb) W ((W.setCell ⟨bb, 0, none⟩ (.string s)).setCell ⟨bb, 1, none⟩ (.bool i)) := ((Ch.refl (one bb) W).set (p := ⟨bb, 0, none⟩) (.inl rfl) _).set (p := ⟨bb, 1, none⟩) (.inl rfl) _
        have hno : Ch no X.drew ((W.setCell ⟨bb, 0, none⟩ (.string s)).setCell ⟨bb, 1, none⟩ (.bool i)) := hW.trans hch (fun k hk (e : k = bb) => by have hk2 : k < X.heap.size := hk; omega)
        refine ⟨rfl, rfl, Mu.all_ch hch, .inr ⟨hno, fun j hj hG => ?_⟩, ?_⟩
        · unfold GT at hG ⊢
          by_cases h13 : j = 13
          · rw [if_pos h13]
            exact ⟨bb, hbb, HV.out, _, _, hx⟩
          · rw [if_neg h13, if_neg hj] at hG ⊢
            exact hG
        · unfold GT
          rw [if_neg (by omega), if_pos rfl]
          exact ⟨bb, hbb, HV.out, hx⟩
      · intro vs W hW hd
        simp only [fill, List.setIfInBounds_toArray, List.set_cons_zero, List.set_cons_succ]
        have d12 := gt_at (k := 12) rfl (by omega) (by omega) (hd ⟨12, .data⟩ (by simp) rfl)
        rw [d12]
        clear hd d12
        go_wp2_with (fail)
        exact ⟨rfl, rfl, Mu.all_ch (Ch.refl no W), .inl (Ch.refl no W), gt_put (k := 15) rfl (by omega) (by omega) rfl⟩
    case fin =>
      intro vs W hW hd
      simp only [fill, List.setIfInBounds_toArray, List.set_cons_zero, List.set_cons_succ]
      have d0 := gt_at (k := 0) rfl (by omega) (by omega) (hd 0 (by simp))
      have d1 := gt_at (k := 1) rfl (by omega) (by omega) (hd 1 (by simp))
      have d2 := gt_at (k := 2) rfl (by omega) (by omega) (hd 2 (by simp))
      have d3 := gt_at (k := 3) rfl (by omega) (by omega) (hd 3 (by simp))
      have d4 := gt_at (k := 4) rfl (by omega) (by omega) (hd 4 (by simp))
      have d5 := gt_at (k := 5) rfl (by omega) (by omega) (hd 5 (by simp))
      have d6 := gt_at (k := 6) rfl (by omega) (by omega) (hd 6 (by simp))
      have d7 := gt_at (k := 7) rfl (by omega) (by omega) (hd 7 (by simp))
      have d8 := gt_at (k := 8) rfl (by omega) (by omega) (hd 8 (by simp))
      have d9 := gt_at (k := 9) rfl (by omega) (by omega) (hd 9 (by simp))
      have d10 := gt_at (k := 10) rfl (by omega) (by omega) (hd 10 (by simp))
      have d11 := gt_at (k := 11) rfl (by omega) (by omega) (hd 11 (by simp))
      have d12 := gt_at (k := 12) rfl (by omega) (by omega) (hd 12 (by simp))
      have d15 := gt_at (k := 15) rfl (by omega) (by omega) (hd 15 (by simp))
      have h14 := hd 14 (by simp)
      unfold GT at h14
      rw [if_neg (by omega), if_pos rfl] at h14
      obtain ⟨bb, hbb, hv, hbk⟩ := h14
      rw [d0, d1, d2, d3, d4, d5, d6, d7, d8, d9, d10, d11, d12, d15, hv]
      have HWW : Hid (Ch no X W) := Lib.hid ((Ch.refl no X).drew.same hW)
      have HBK := Lib.hid hbk; have HBB := Lib.hid hbb
      have HIW := Lib.hid (HI.out.keep HWW.out (fun k h => h.elim) (fun k h => h.elim))
      clear hd hW hv hbk hbb HFO HFA HFB HF1 d0 d1 d2 d3 d4 d5 d6 d7 d8 d9 d10 d11 d12 d15
      have HVW : Hid (Ch (VV g N) X W) := Lib.hid (HWW.out.mono (fun k h => h.elim))
      have hNX : N + 2 ≤ W.heap.size := by have := HN.out; have := HWW.out.size; omega
      cases cl with
      | false =>
        cases i with
        | false =>
          have HZ := HIW; have HBZ := HBK; have HVZ := HVW
          have e0 := (bCell HBZ.out 0).trans rfl
          have e1 := (bCell HBZ.out 1).trans rfl
          have c3 := (bCell HZ.out.b3 0).trans rfl
          gi_wp2_with (fail)
          exact ⟨HVZ.out, HEND.out _ _ _ _ HZ.out.up (by rw [HST.out]; simp)⟩
        | true =>
          by_cases hlt : t1.length < 1000
          · have HLT := Lib.hid hlt
            have hlt2 : (t1.length : Int) < 1000 := by omega
            clear hlt
            have HZ := HIW; have HBZ := HBK; have HVZ := HVW
            have e0 := (bCell HBZ.out 0).trans rfl
            have e1 := (bCell HBZ.out 1).trans rfl
            have c3 := (bCell HZ.out.b3 0).trans rfl
            have HON2 : Hid (∀ u ∈ ([.string x, .string s] : List Value), u.oneCell' = true) := Lib.hid (by intro u hu; simp at hu; rcases hu with rfl | rfl <;> rfl)
            gi_wp2_with (first | (gi_at_builtin; refine wpListIn_append_own _ rfl _ _ 22 rfl (N + 2) 31 j0 _ 2 32 Tryd.underlying22 ji jz0 jz1 jz2 rfl (by omega) (.slice Avo t1.length cvo) t1.length _ rfl (own_ch HZ.out.o1 ((Ch.refl no _).alloc _) (fun _ _ => no_not _)) ⟨W.heap.size, 0, none⟩ 1 1 [.string x, .string s] rfl rfl (news_at W _ (by simp) [.string x, .string s] _) HON2.out (by unfold maxLen; omega) (by omega) (by simp; omega) ?_; intro v2 w2 hown2 hgrow2 _; obtain ⟨A2, k2, hv2⟩ := Ne.own_shape hown2; subst hv2; have hgc2 := grown_ch hgrow2; have HY := Lib.hid ((HZ.out.noS ((Ch.refl no _).alloc (.cells #[.string x, .string s] 31))).more1 (f := ⟨x, s⟩) hgc2 (own_more hown2) (by omega) HLT.out); have hb2 := hgc2.blk (((Ch.refl no _).alloc (.cells #[.string x, .string s] 31)).blk HZ.out.b3 (no_not _)) (fun h => by have := HGE1.out _ h.symm; omega); have hf2 := bFree hb2 0; have hc2 := (bCell hb2 0).trans rfl; have HVY := Lib.hid (vv_out (.slice A2 (t1.length + 1) k2) HVZ.out hgc2 HGE1.out); clear hown2 hgrow2 hgc2 hb2))
            exact ⟨HVY.out, HEND.out _ _ _ _ HY.out.up (by rw [HST.out]; simp [HLT.out])⟩
          · have HLT := Lib.hid hlt
            have hlt2 : ¬ (t1.length : Int) < 1000 := by omega
            clear hlt
            have HZ := HIW; have HBZ := HBK; have HVZ := HVW
            have e0 := (bCell HBZ.out 0).trans rfl
            have e1 := (bCell HBZ.out 1).trans rfl
            have c3 := (bCell HZ.out.b3 0).trans rfl
            gi_wp2_with (fail)
            exact ⟨HVZ.out, HEND.out _ _ _ _ HZ.out.up (by rw [HST.out]; simp [HLT.out])⟩
      | true =>
        cases i with
        | false =>
          have HON : Hid (∀ u ∈ ([.string x] : List Value), u.oneCell' = true) := Lib.hid (by intro u hu; simp at hu; subst hu; rfl)
          have c4 := (bCell HIW.out.b4 0).trans rfl
          gi_wp2_with (first | (gi_at_builtin; refine wpListIn_append_own _ rfl _ _ 25 rfl (N + 2) 9 i0 _ 1 16 Tryd.underlying25 hi hz0 hz1 hz2 rfl (by omega) vd t2.length _ rfl (own_ch HIW.out.o2 ((Ch.refl no W).alloc _) (fun _ _ => no_not _)) ⟨W.heap.size, 0, none⟩ 1 1 [.string x] rfl rfl (news_of W [.string x] _) HON.out (by unfold maxLen; omega) (by omega) (by simp; omega) ?_; intro v1 w1 hown hgrow _; obtain ⟨A1, k1, hv1⟩ := Ne.own_shape hown; subst hv1; have hgc := grown_ch hgrow; have HZ := Lib.hid ((HIW.out.noS ((Ch.refl no W).alloc (.cells #[.string x] 9))).more2 (p := x) hgc (own_more2 hown) (by omega)); have hb1 := hgc.blk (((Ch.refl no W).alloc (.cells #[.string x] 9)).blk HIW.out.b4 (no_not _)) (fun h => by have := HGE2.out _ h.symm; omega); have hf1 := bFree hb1 0; have hc1 := (bCell hb1 0).trans rfl; have HVZ := Lib.hid (vv_odd (.slice A1 (t2.length + 1) k1) HVW.out hgc HGE2.out); have HBZ := Lib.hid ((Ch.set1 w1 (g + 1 + 1 + 1 + 1) 0 (.slice A1 (t2.length + 1) k1)).blk (hgc.blk (((Ch.refl no W).alloc (.cells #[.string x] 9)).blk HBK.out (no_not _)) (fun h => by have := HLT2.out _ h.symm; have := HBB.out; omega)) (fun (h : bb = g + 1 + 1 + 1 + 1) => by have := HBB.out; have := HN.out; omega)); have e0 := (bCell HBZ.out 0).trans rfl; have e1 := (bCell HBZ.out 1).trans rfl; have c3 := (bCell HZ.out.b3 0).trans rfl; have hNZ : N + 2 ≤ w1.heap.size := (by have := hgc.size; simp at this; omega); clear hown hgrow hgc hb1))
          exact ⟨HVZ.out, HEND.out _ _ _ _ HZ.out (by rw [HST.out]; simp)⟩
        | true =>
          by_cases hlt : t1.length < 1000
          · have HLT := Lib.hid hlt
            have hlt2 : (t1.length : Int) < 1000 := by omega
            clear hlt
            have HON : Hid (∀ u ∈ ([.string x] : List Value), u.oneCell' = true) := Lib.hid (by intro u hu; simp at hu; subst hu; rfl)
            have c4 := (bCell HIW.out.b4 0).trans rfl
            have HON2 : Hid (∀ u ∈ ([.string x, .string s] : List Value), u.oneCell' = true) := Lib.hid (by intro u hu; simp at hu; rcases hu with rfl | rfl <;> rfl)
            gi_wp2_with (first | (gi_at_builtin; refine wpListIn_append_own _ rfl _ _ 25 rfl (N + 2) 9 i0 _ 1 16 Tryd.underlying25 hi hz0 hz1 hz2 rfl (by omega) vd t2.length _ rfl (own_ch HIW.out.o2 ((Ch.refl no W).alloc _) (fun _ _ => no_not _)) ⟨W.heap.size, 0, none⟩ 1 1 [.string x] rfl rfl (news_of W [.string x] _) HON.out (by unfold maxLen; omega) (by omega) (by simp; omega) ?_; intro v1 w1 hown hgrow _; obtain ⟨A1, k1, hv1⟩ := Ne.own_shape hown; subst hv1; have hgc := grown_ch hgrow; have HZ := Lib.hid ((HIW.out.noS ((Ch.refl no W).alloc (.cells #[.string x] 9))).more2 (p := x) hgc (own_more2 hown) (by omega)); have hb1 := hgc.blk (((Ch.refl no W).alloc (.cells #[.string x] 9)).blk HIW.out.b4 (no_not _)) (fun h => by have := HGE2.out _ h.symm; omega); have hf1 := bFree hb1 0; have hc1 := (bCell hb1 0).trans rfl; have HVZ := Lib.hid (vv_odd (.slice A1 (t2.length + 1) k1) HVW.out hgc HGE2.out); have HBZ := Lib.hid ((Ch.set1 w1 (g + 1 + 1 + 1 + 1) 0 (.slice A1 (t2.length + 1) k1)).blk (hgc.blk (((Ch.refl no W).alloc (.cells #[.string x] 9)).blk HBK.out (no_not _)) (fun h => by have := HLT2.out _ h.symm; have := HBB.out; omega)) (fun (h : bb = g + 1 + 1 + 1 + 1) => by have := HBB.out; have := HN.out; omega)); have e0 := (bCell HBZ.out 0).trans rfl; have e1 := (bCell HBZ.out 1).trans rfl; have c3 := (bCell HZ.out.b3 0).trans rfl; have hNZ : N + 2 ≤ w1.heap.size := (by have := hgc.size; simp at this; omega); clear hown hgrow hgc hb1) | (gi_at_builtin; refine wpListIn_append_own _ rfl _ _ 22 rfl (N + 2) 31 j0 _ 2 32 Tryd.underlying22 ji jz0 jz1 jz2 rfl (by omega) (.slice Avo t1.length cvo) t1.length _ rfl (own_ch HZ.out.o1 ((Ch.refl no _).alloc _) (fun _ _ => no_not _)) ⟨w1.heap.size, 0, none⟩ 1 1 [.string x, .string s] rfl rfl (news_at (w1.setCell ⟨g + 1 + 1 + 1 + 1, 0, none⟩ (.slice A1 (t2.length + 1) k1)) _ (by simp) [.string x, .string s] _) HON2.out (by unfold maxLen; omega) (by omega) (by simp; omega) ?_; intro v2 w2 hown2 hgrow2 _; obtain ⟨A2, k2, hv2⟩ := Ne.own_shape hown2; subst hv2; have hgc2 := grown_ch hgrow2; have HY := Lib.hid ((HZ.out.noS ((Ch.refl no _).alloc (.cells #[.string x, .string s] 31))).more1 (f := ⟨x, s⟩) hgc2 (own_more hown2) (by omega) HLT.out); have hb2 := hgc2.blk (((Ch.refl no _).alloc (.cells #[.string x, .string s] 31)).blk HZ.out.b3 (no_not _)) (fun h => by have := HGE1.out _ h.symm; omega); have hf2 := bFree hb2 0; have hc2 := (bCell hb2 0).trans rfl; have HVY := Lib.hid (vv_out (.slice A2 (t1.length + 1) k2) HVZ.out hgc2 HGE1.out); clear hown2 hgrow2 hgc2 hb2))
            exact ⟨HVY.out, HEND.out _ _ _ _ HY.out (by rw [HST.out]; simp [HLT.out])⟩
          · have HLT := Lib.hid hlt
            have hlt2 : ¬ (t1.length : Int) < 1000 := by omega
            clear hlt
            have HON : Hid (∀ u ∈ ([.string x] : List Value), u.oneCell' = true) := Lib.hid (by intro u hu; simp at hu; subst hu; rfl)
            have c4 := (bCell HIW.out.b4 0).trans rfl
            gi_wp2_with (first | (gi_at_builtin; refine wpListIn_append_own _ rfl _ _ 25 rfl (N + 2) 9 i0 _ 1 16 Tryd.underlying25 hi hz0 hz1 hz2 rfl (by omega) vd t2.length _ rfl (own_ch HIW.out.o2 ((Ch.refl no W).alloc _) (fun _ _ => no_not _)) ⟨W.heap.size, 0, none⟩ 1 1 [.string x] rfl rfl (news_of W [.string x] _) HON.out (by unfold maxLen; omega) (by omega) (by simp; omega) ?_; intro v1 w1 hown hgrow _; obtain ⟨A1, k1, hv1⟩ := Ne.own_shape hown; subst hv1; have hgc := grown_ch hgrow; have HZ := Lib.hid ((HIW.out.noS ((Ch.refl no W).alloc (.cells #[.string x] 9))).more2 (p := x) hgc (own_more2 hown) (by omega)); have hb1 := hgc.blk (((Ch.refl no W).alloc (.cells #[.string x] 9)).blk HIW.out.b4 (no_not _)) (fun h => by have := HGE2.out _ h.symm; omega); have hf1 := bFree hb1 0; have hc1 := (bCell hb1 0).trans rfl; have HVZ := Lib.hid (vv_odd (.slice A1 (t2.length + 1) k1) HVW.out hgc HGE2.out); have HBZ := Lib.hid ((Ch.set1 w1 (g + 1 + 1 + 1 + 1) 0 (.slice A1 (t2.length + 1) k1)).blk (hgc.blk (((Ch.refl no W).alloc (.cells #[.string x] 9)).blk HBK.out (no_not _)) (fun h => by have := HLT2.out _ h.symm; have := HBB.out; omega)) (fun (h : bb = g + 1 + 1 + 1 + 1) => by have := HBB.out; have := HN.out; omega)); have e0 := (bCell HBZ.out 0).trans rfl; have e1 := (bCell HBZ.out 1).trans rfl; have c3 := (bCell HZ.out.b3 0).trans rfl; have hNZ : N + 2 ≤ w1.heap.size := (by have := hgc.size; simp at this; omega); clear hown hgrow hgc hb1))
            exact ⟨HVZ.out, HEND.out _ _ _ _ HZ.out (by rw [HST.out]; simp [HLT.out])⟩
  case done =>
    rintro X ⟨vo, vd, HI⟩ hZ' hK
    have HKK := Lib.hid hK
    clear hK
    have c3 := (bCell HI.out.b3 0).trans rfl
    have c4 := (bCell HI.out.b4 0).trans rfl
    go_wp2_with fail
    go_quiet (fail)
    go_wp2_with fail
    refine ⟨by simp, .inl ⟨_, _, rfl, run_takeDeferred HKK.out, ?_⟩⟩
    have hput := fun n => ((Ch.refl (one W1.heap.size) X).drewN n).same (ch_putObj _ W1.heap.size (.deferred none))
    have hz := HN.out; have hg := HG.out
    have hfin := fun n => HI.out.keep (hput n) (fun k h => by have h' : k = W1.heap.size := h; omega) (fun k h hk => by have h' : k = W1.heap.size := h; omega)
    refine ⟨_, ?_, vo, vd, rfl, own_less (hfin _).o1 (by omega), own_less (hfin _).o2 (by omega), (hfin _).ch⟩
    simp [results, Tryd.results13, go_sem]

end Go.Proofs.YtekeiieefkgopaaDoor.Bk
