/- Whether one stands on another one: the whole. -/
import Derived.Test.YtlmcbmgdhpoedaaDq
namespace Go.Proofs.Ytlmcbmgdhpoedaa.Dr
open Go Go.RowKit Go.Proofs.Ytlmcbmgdhpoedaa.Aa Go.Proofs.Ytlmcbmgdhpoedaa.Vw Go.Proofs.Ytlmcbmgdhpoedaa.Mp Go.Proofs.Ytlmcbmgdhpoedaa.Da Go.Proofs.Ytlmcbmgdhpoedaa.Db Go.Proofs.Ytlmcbmgdhpoedaa.Dc Go.Proofs.Ytlmcbmgdhpoedaa.De Go.Proofs.Ytlmcbmgdhpoedaa.Df Go.Proofs.Ytlmcbmgdhpoedaa.Di Go.Proofs.Ytlmcbmgdhpoedaa.Dj Go.Proofs.Ytlmcbmgdhpoedaa.Dk Go.Proofs.Ytlmcbmgdhpoedaa.Dl Go.Proofs.Ytlmcbmgdhpoedaa.Dp Go.Proofs.Ytlmcbmgdhpoedaa.Dq
set_option linter.unusedVariables false
set_option linter.unusedSimpArgs false

/-- A function is stored. -/
theorem run_store_func {P : Program} (w : World) (a : Addr) (m : Mode) (f : Fn) (x y : Array Value) : (store a (.func f x y) m).run P w = stored P w a (.func f x y) m := run_store P w a _ m rfl
attribute [local go_sem] run_store_func
/-- All that a search can meet. -/
def all (d : Gr) (b : Nm) : List Nm := b :: d.ins.flatMap (·.2.1)
theorem all_closed (d : Gr) (b : Nm) : ∀ u ∈ all d b, ∀ p ∈ d.par u, p ∈ all d b := by
  intro u _ p hp
  unfold Gr.par at hp
  cases hg : Da.get d.ins u with
  | none => rw [hg] at hp; simp at hp
  | some v =>
    rw [hg] at hp
    exact List.mem_cons_of_mem _ (List.mem_flatMap.2 ⟨_, get_some_mem hg, hp⟩)
set_option maxRecDepth 100000 in
set_option maxHeartbeats 4000000 in
theorem above_of (B : Nat) (d : Gr) (a b : Nm) (w : World) (h : DagV w B d) :
    Calls Try.prog 13 #[ptr B, .string a, .string b] w fun e w' => ∃ r, e = .returned (.bool r) ∧ (r = true ↔ (d.has a = true ∧ d.has b = true ∧ d.Reach b a)) ∧ Ch no w w' := by
  have hmm := @run_makeMap Try.prog
  obtain ⟨g, hg⟩ : ∃ g, w.heap.size = g := ⟨_, rfl⟩
  obtain ⟨W1, h1⟩ : ∃ W, w.alloc (.cells #[ptr B] 25) = W := ⟨_, rfl⟩
  have s1 : W1.heap.size = g + 1 := by rw [← h1]; simp [hg]
  obtain ⟨W2, h2⟩ : ∃ W, W1.alloc (.cells #[.string a] 30) = W := ⟨_, rfl⟩
  have s2 : W2.heap.size = g + 2 := by rw [← h2]; simp [s1]
  have c1 : Ch no w W1 := by rw [← h1]; exact (Ch.refl _ _).alloc _
  have c2 : Ch no W1 W2 := by rw [← h2]; exact (Ch.refl _ _).alloc _
  have b0 : W2.heap[g]? = some (.cells #[ptr B] 25 (0, 0)) := c2.blk (by rw [← h1, ← hg]; exact bNew _ _) (no_not _)
  have b1 : W2.heap[g + 1]? = some (.cells #[.string a] 30 (0, 0)) := by rw [← h2, ← s1]; exact bNew _ _
  have q0 := (bCell b0 0).trans rfl
  have q1 := (bCell b1 0).trans rfl
  have HD : Hid (DagV W2 B d) := Lib.hid (h.ch (c1.then_ c2))
  have HC2 := Lib.hid (c1.then_ c2); have HB0 := Lib.hid b0; have HB1 := Lib.hid b1; have HG := Lib.hid hg
  have HLT := Lib.hid h.lt
  clear c1 c2 b0 b1 h
  cases ha : d.has a with
  | false =>
    have HA := Lib.hid ha; clear ha
    go_enter Try.func13, Try.ntmps13
    go_wp2_with (refine (has_of B d a _ HD.out).mono ?_; rintro e w' ⟨rfl, rfl⟩; rw [HA.out])
    go_ret
    exact ⟨false, rfl, by simp, HC2.out⟩
  | true =>
    have HA := Lib.hid ha; clear ha
    cases hb : d.has b with
    | false =>
      have HB := Lib.hid hb; clear hb
      go_enter Try.func13, Try.ntmps13
      go_wp2_with (refine (has_of B d _ _ HD.out).mono ?_; rintro e w' ⟨rfl, rfl⟩; first | rw [HA.out] | rw [HB.out])
      go_ret
      exact ⟨false, rfl, by simp, HC2.out⟩
    | true =>
      have HB := Lib.hid hb; clear hb
      obtain ⟨bl, hbl⟩ : ∃ bl : Bl, bl = ⟨B, g + 1, g + 3, g, g + 4, g + 2⟩ := ⟨_, rfl⟩
      obtain ⟨W3, h3⟩ : ∃ W, W2.alloc (.map #[] 0) = W := ⟨_, rfl⟩
      have s3 : W3.heap.size = g + 3 := by rw [← h3]; simp [s2]
      obtain ⟨W4, h4⟩ : ∃ W, W3.alloc (.cells #[.map none] 54) = W := ⟨_, rfl⟩
      have s4 : W4.heap.size = g + 4 := by rw [← h4]; simp [s3]
      have b4 : W4.heap[g + 3]? = some (.cells #[.map none] 54 (0, 0)) := by rw [← h4, ← s3]; exact bNew _ _
      obtain ⟨W5, h5⟩ : ∃ W, W4.setCell ⟨g + 3, 0, none⟩ (.map (some (g + 2))) = W := ⟨_, rfl⟩
      have b5 : W5.heap[g + 3]? = some (.cells #[.map (some (g + 2))] 54 (0, 0)) := by rw [← h5]; exact bSet b4 0 _
      have s5 : W5.heap.size = g + 4 := by rw [← h5, ← s4]; simp [World.setCell]
      obtain ⟨W6, h6⟩ : ∃ W, W5.alloc (.cells #[.nilFunc] 44) = W := ⟨_, rfl⟩
      have b6 : W6.heap[g + 4]? = some (.cells #[.nilFunc] 44 (0, 0)) := by rw [← h6, ← s5]; exact bNew _ _
      obtain ⟨W7, h7⟩ : ∃ W, W6.setCell ⟨g + 4, 0, none⟩ (.func (.func 33) #[] #[.pointer (some ⟨g + 1, 0, none⟩), .pointer (some ⟨g + 3, 0, none⟩), .pointer (some ⟨g, 0, none⟩), .pointer (some ⟨g + 4, 0, none⟩)]) = W := ⟨_, rfl⟩
      have b7 : W7.heap[g + 4]? = some (.cells #[.func (.func 33) #[] #[.pointer (some ⟨g + 1, 0, none⟩), .pointer (some ⟨g + 3, 0, none⟩), .pointer (some ⟨g, 0, none⟩), .pointer (some ⟨g + 4, 0, none⟩)]] 44 (0, 0)) := by rw [← h7]; exact bSet b6 0 _
      have c3 : Ch no W2 W3 := by rw [← h3]; exact (Ch.refl _ _).alloc _
      have c4 : Ch no W3 W4 := by rw [← h4]; exact (Ch.refl _ _).alloc _
      have c5 : Ch (Aa.one (g + 3)) W4 W5 := by rw [← h5]; exact Ch.set1 _ _ _ _
      have c6 : Ch no W5 W6 := by rw [← h6]; exact (Ch.refl _ _).alloc _
      have c7 : Ch (Aa.one (g + 4)) W6 W7 := by rw [← h7]; exact Ch.set1 _ _ _ _
      have m3 : MapV Value.string W3 (g + 2) ([] : List (Nm × Value)) := by rw [← h3, ← s2]; exact MapV.new W2
      have c27 : Ch no W2 W7 := (((c3.then_ c4).trans c5 (fun i hi (h : i = g + 3) => by omega)).then_ c6).trans c7 (fun i hi (h : i = g + 4) => by omega)
      have hst : StV W7 bl a d [] := by
        subst hbl
        have hlt := HLT.out
        have hgg := HG.out
        refine ⟨HD.out.ch c27, c27.blk HB1.out (no_not _), c7.blk (c6.blk b5 (no_not _)) (fun (h : g + 3 = g + 4) => by omega), c27.blk HB0.out (no_not _), b7, ?_, by simp, ?_, ?_, ?_⟩
        · exact (((m3.ch c4 (no_not _)).ch c5 (fun (h : g + 2 = g + 3) => by omega)).ch c6 (no_not _)).ch c7 (fun (h : g + 2 = g + 4) => by omega)
        · show g + 2 ≠ B; omega
        · show g + 2 ≠ B + 1; omega
        · show g + 2 ≠ B + 2; omega
      have HS := Lib.hid (stands_all bl a d (all d b) (all_closed d b) (un (all d b) (keysOf [])) b W7 [] (List.mem_cons_self ..) hst (by simp [keysOf]) (Nat.le_refl _))
      have HBL := Lib.hid hbl
      have HC7 := Lib.hid c27
      have f4 := bFree b4 0
      have f6 := bFree b6 0
      have k4 := (bCell b4 0).trans rfl
      have k6 := (bCell b6 0).trans rfl
      have k7 := (bCell b7 0).trans rfl
      have HSZ := Lib.hid s2
      clear b4 b5 b6 b7 c3 c4 c5 c6 c7 m3 c27 hst hbl
      go_enter Try.func13, Try.ntmps13
      go_wp2_with (refine (has_of B d _ _ HD.out).mono ?_; rintro e w' ⟨rfl, rfl⟩; first | rw [HA.out] | rw [HB.out])
      have hs := HS.out
      rw [HBL.out] at hs
      refine hs.mono ?_
      rintro e w8 ⟨r, mo, rfl, _, hc8, hd8⟩
      have HC8 : Hid (Ch no w w8) := Lib.hid (by
        have h1 : Ch (Aa.one (g + 2)) W7 w8 := hc8
        have hgg := HG.out
        exact (HC2.out.then_ HC7.out).trans h1 (fun i hi (h : i = g + 2) => by omega))
      have HR := Lib.hid (Dfs.top hd8)
      clear hs hc8 hd8
      go_wp2_with fail
      go_ret
      refine ⟨r, rfl, ?_, HC8.out⟩
      rw [HR.out]
      simp
end Go.Proofs.Ytlmcbmgdhpoedaa.Dr
