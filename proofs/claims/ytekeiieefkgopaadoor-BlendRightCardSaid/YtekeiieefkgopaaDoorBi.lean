/- blend.both, blend.one: walked. -/
import Derived.Test.YtekeiieefkgopaaDoorBe
import Derived.Test.YtekeiieefkgopaaDoorBh
import Derived.Test.YtekeiieefkgopaaDoorNg
namespace Go.Proofs.YtekeiieefkgopaaDoor.Bi
open Go.RowKit Go.Proofs.YtekeiieefkgopaaDoor.Aa Go.Proofs.YtekeiieefkgopaaDoor.Vw Go.Proofs.YtekeiieefkgopaaDoor.Mb Go.Proofs.YtekeiieefkgopaaDoor.Na Go.Proofs.YtekeiieefkgopaaDoor.Nb Go.Proofs.YtekeiieefkgopaaDoor.Ng Go.Proofs.YtekeiieefkgopaaDoor.No Go.Proofs.YtekeiieefkgopaaDoor.Nq Go.Proofs.YtekeiieefkgopaaDoor.Ba Go.Proofs.YtekeiieefkgopaaDoor.Bc Go.Proofs.YtekeiieefkgopaaDoor.Be
set_option linter.unusedVariables false
set_option linter.unusedSimpArgs false

def AtP (r : At × Bool) (w : World) (e : Ending) (w' : World) : Prop := e = .returned (.tuple #[.agg #[.string r.1.text, .bool r.1.is], .bool r.2]) ∧ Ch no w w'
abbrev atB (s : ByteArray) (b : Bool) : Obj := .cells #[.string s, .bool b] 59
/-- Four blocks that were just made. -/
theorem four (w : World) (x y z u : Obj) : ((((w.alloc x).alloc y).alloc z).alloc u).heap[w.heap.size]? = some x ∧ ((((w.alloc x).alloc y).alloc z).alloc u).heap[w.heap.size + 1]? = some y ∧ ((((w.alloc x).alloc y).alloc z).alloc u).heap[w.heap.size + 1 + 1]? = some z ∧ ((((w.alloc x).alloc y).alloc z).alloc u).heap[w.heap.size + 1 + 1 + 1]? = some u := by
  have h := allocs_get w [x, y, z, u]
  simp only [List.foldl_cons, List.foldl_nil] at h
  exact ⟨h 0 x rfl, h 1 y rfl, h 2 z rfl, h 3 u rfl⟩

set_option maxRecDepth 100000 in
set_option maxHeartbeats 4000000 in
theorem both_of (o a b : At) (w : World) (HT : ∀ W : World, Calls Tryd.prog 84 #[.string o.text, .string a.text, .string b.text] W (TextP (textOf o.text a.text b.text) W)) (hn : (textOf o.text a.text b.text).2 ≤ 1000000) :
    Calls Tryd.prog 62 #[.agg #[.string o.text, .bool o.is], .agg #[.string a.text, .bool a.is], .agg #[.string b.text, .bool b.is]] w (AtP (bothB o a b) w) := by
  have HTT := Lib.hid HT
  clear HT
  obtain ⟨so, io⟩ := o
  obtain ⟨sa, ia⟩ := a
  obtain ⟨sb, ib⟩ := b
  obtain ⟨g, hg⟩ : ∃ g, w.heap.size = g := ⟨_, rfl⟩
  have hb := four w (atB so io) (atB sa ia) (atB sb ib) (atB ⟨#[]⟩ false)
  rw [hg] at hb
  have HBB := Lib.hid hb
  have HG := Lib.hid hg
  have HC0 : Hid (Ch no w ((((w.alloc (atB so io)).alloc (atB sa ia)).alloc (atB sb ib)).alloc (atB ⟨#[]⟩ false))) := Lib.hid ((((((Ch.refl no w).alloc _).alloc _).alloc _).alloc _))
  clear hb hg
  simp only [] at HTT hn
  obtain ⟨r, hr⟩ : ∃ r, textOf so sa sb = r := ⟨_, rfl⟩
  obtain ⟨s, n⟩ := r
  rw [hr] at HTT hn
  simp only [] at hn
  have HRR := Lib.hid hr
  clear hr
  have hms := mxStr sa sb
  have hmo := mxOp
  cases ia with
  | false =>
    have HR : Hid (bothB ⟨so, io⟩ ⟨sa, false⟩ ⟨sb, ib⟩ = (⟨sb, ib⟩, true)) := Lib.hid (by simp [bothB])
    obtain ⟨W4, hW4⟩ : ∃ W4, ((((w.alloc (atB so io)).alloc (atB sa false)).alloc (atB sb ib)).alloc (atB ⟨#[]⟩ false)) = W4 := ⟨_, rfl⟩
    rw [hW4] at HBB HC0
    go_enter Tryd.func62, Tryd.ntmps62
    have q0 := fun i => bCell HBB.out.1 i
    have q1 := fun i => bCell HBB.out.2.1 i
    have q2 := fun i => bCell HBB.out.2.2.1 i
    go_upto_region 1 with (fail)
    rw [HG.out]
    clear hW4
    go_wp2_with fail
    refine (HTT.out _).mono ?_
    rintro e w1 ⟨rfl, hc⟩
    clear q0 q1 q2
    have HC := Lib.hid (HC0.out.same hc)
    have HB3 := Lib.hid (hc.blk HBB.out.2.2.2 (no_not _))
    have c0 := fun i => bCell (hc.blk HBB.out.1 (no_not _)) i
    have c1 := fun i => bCell (hc.blk HBB.out.2.1 (no_not _)) i
    have c2 := fun i => bCell (hc.blk HBB.out.2.2.1 (no_not _)) i
    have c3 := fun i => bCell HB3.out i
    have f3 := fun i => bFree HB3.out i
    clear hc
    go_wp2_with fail
    have hx := bSet (bSet HB3.out 0 (.string sb)) 1 (.bool ib)
    simp only [List.setIfInBounds_toArray, List.set_cons_zero, List.set_cons_succ] at hx
    have hy : Ch no w ((w1.setCell ⟨g + 1 + 1 + 1, 0, none⟩ (.string sb)).setCell ⟨g + 1 + 1 + 1, 1, none⟩ (.bool ib)) := by
      have hgs := HG.out
      exact (HC.out.set (p := ⟨g + 1 + 1 + 1, 0, none⟩) (.inr (by simp; omega)) _).set (p := ⟨g + 1 + 1 + 1, 1, none⟩) (.inr (by simp; omega)) _
    have HX := Lib.hid hx; have HY := Lib.hid hy
    clear hx hy c0 c1 c2 c3 f3
    have d0 := (bCell HX.out 0).trans rfl
    have d1 := (bCell HX.out 1).trans rfl
    exact bodyPost_ret (v := .tuple #[.agg #[.string sb, .bool ib], .bool true]) (by simp [results, Tryd.results62, go_sem, d0, d1]) rfl ⟨by rw [HR.out], HY.out⟩
  | true =>
    cases ib with
    | false =>
      have HR : Hid (bothB ⟨so, io⟩ ⟨sa, true⟩ ⟨sb, false⟩ = (⟨sa, true⟩, true)) := Lib.hid (by simp [bothB])
      obtain ⟨W4, hW4⟩ : ∃ W4, ((((w.alloc (atB so io)).alloc (atB sa true)).alloc (atB sb false)).alloc (atB ⟨#[]⟩ false)) = W4 := ⟨_, rfl⟩
      rw [hW4] at HBB HC0
      go_enter Tryd.func62, Tryd.ntmps62
      have q0 := fun i => bCell HBB.out.1 i
      have q1 := fun i => bCell HBB.out.2.1 i
      have q2 := fun i => bCell HBB.out.2.2.1 i
      go_upto_region 1 with (fail)
      rw [HG.out]
      clear hW4
      go_wp2_with fail
      refine (HTT.out _).mono ?_
      rintro e w1 ⟨rfl, hc⟩
      clear q0 q1 q2
      have HC := Lib.hid (HC0.out.same hc)
      have HB3 := Lib.hid (hc.blk HBB.out.2.2.2 (no_not _))
      have c0 := fun i => bCell (hc.blk HBB.out.1 (no_not _)) i
      have c1 := fun i => bCell (hc.blk HBB.out.2.1 (no_not _)) i
      have c2 := fun i => bCell (hc.blk HBB.out.2.2.1 (no_not _)) i
      have c3 := fun i => bCell HB3.out i
      have f3 := fun i => bFree HB3.out i
      clear hc
      go_wp2_with fail
      have hx := bSet (bSet HB3.out 0 (.string sa)) 1 (.bool true)
      simp only [List.setIfInBounds_toArray, List.set_cons_zero, List.set_cons_succ] at hx
      have hy : Ch no w ((w1.setCell ⟨g + 1 + 1 + 1, 0, none⟩ (.string sa)).setCell ⟨g + 1 + 1 + 1, 1, none⟩ (.bool true)) := by
        have hgs := HG.out
        exact (HC.out.set (p := ⟨g + 1 + 1 + 1, 0, none⟩) (.inr (by simp; omega)) _).set (p := ⟨g + 1 + 1 + 1, 1, none⟩) (.inr (by simp; omega)) _
      have HX := Lib.hid hx; have HY := Lib.hid hy
      clear hx hy c0 c1 c2 c3 f3
      have d0 := (bCell HX.out 0).trans rfl
      have d1 := (bCell HX.out 1).trans rfl
      exact bodyPost_ret (v := .tuple #[.agg #[.string sa, .bool true], .bool true]) (by simp [results, Tryd.results62, go_sem, d0, d1]) rfl ⟨by rw [HR.out], HY.out⟩
    | true =>
      by_cases hs : 65536 < s.size
      · have HR : Hid (bothB ⟨so, io⟩ ⟨sa, true⟩ ⟨sb, true⟩ = (⟨maxS sa sb, true⟩, true)) := Lib.hid (by simp only [bothB]; rw [HRR.out]; simp [hs])
        have hs2 : (65536 : Int) < (s.size : Int) := by omega
        clear hs
        obtain ⟨W4, hW4⟩ : ∃ W4, ((((w.alloc (atB so io)).alloc (atB sa true)).alloc (atB sb true)).alloc (atB ⟨#[]⟩ false)) = W4 := ⟨_, rfl⟩
        rw [hW4] at HBB HC0
        go_enter Tryd.func62, Tryd.ntmps62
        have q0 := fun i => bCell HBB.out.1 i
        have q1 := fun i => bCell HBB.out.2.1 i
        have q2 := fun i => bCell HBB.out.2.2.1 i
        go_upto_region 1 with (fail)
        rw [HG.out]
        clear hW4
        go_wp2_with fail
        refine (HTT.out _).mono ?_
        rintro e w1 ⟨rfl, hc⟩
        clear q0 q1 q2
        have HC := Lib.hid (HC0.out.same hc)
        have HB3 := Lib.hid (hc.blk HBB.out.2.2.2 (no_not _))
        have c0 := fun i => bCell (hc.blk HBB.out.1 (no_not _)) i
        have c1 := fun i => bCell (hc.blk HBB.out.2.1 (no_not _)) i
        have c2 := fun i => bCell (hc.blk HBB.out.2.2.1 (no_not _)) i
        have c3 := fun i => bCell HB3.out i
        have f3 := fun i => bFree HB3.out i
        clear hc
        go_wp2_with fail
        have hx := bSet (bSet HB3.out 0 (.string (maxS sa sb))) 1 (.bool true)
        simp only [List.setIfInBounds_toArray, List.set_cons_zero, List.set_cons_succ] at hx
        have hy : Ch no w ((w1.setCell ⟨g + 1 + 1 + 1, 0, none⟩ (.string (maxS sa sb))).setCell ⟨g + 1 + 1 + 1, 1, none⟩ (.bool true)) := by
          have hgs := HG.out
          exact (HC.out.set (p := ⟨g + 1 + 1 + 1, 0, none⟩) (.inr (by simp; omega)) _).set (p := ⟨g + 1 + 1 + 1, 1, none⟩) (.inr (by simp; omega)) _
        have HX := Lib.hid hx; have HY := Lib.hid hy
        clear hx hy c0 c1 c2 c3 f3
        have d0 := (bCell HX.out 0).trans rfl
        have d1 := (bCell HX.out 1).trans rfl
        exact bodyPost_ret (v := .tuple #[.agg #[.string (maxS sa sb), .bool true], .bool true]) (by simp [results, Tryd.results62, go_sem, d0, d1]) rfl ⟨by rw [HR.out], HY.out⟩
      · have hs2 : ¬ (65536 : Int) < (s.size : Int) := by omega
        by_cases h0 : 0 < n
        · have HR : Hid (bothB ⟨so, io⟩ ⟨sa, true⟩ ⟨sb, true⟩ = (⟨s, true⟩, true)) := Lib.hid (by simp only [bothB]; rw [HRR.out]; simp [hs] <;> omega)
          have HN : Hid (0 < n) := Lib.hid h0
          have h02 : (0 : Int) < (n : Int) := by omega
          clear hs h0 hms hmo
          obtain ⟨W4, hW4⟩ : ∃ W4, ((((w.alloc (atB so io)).alloc (atB sa true)).alloc (atB sb true)).alloc (atB ⟨#[]⟩ false)) = W4 := ⟨_, rfl⟩
          rw [hW4] at HBB HC0
          go_enter Tryd.func62, Tryd.ntmps62
          have q0 := fun i => bCell HBB.out.1 i
          have q1 := fun i => bCell HBB.out.2.1 i
          have q2 := fun i => bCell HBB.out.2.2.1 i
          go_upto_region 1 with (fail)
          rw [HG.out]
          clear hW4
          go_wp2_with fail
          refine (HTT.out _).mono ?_
          rintro e w1 ⟨rfl, hc⟩
          clear q0 q1 q2
          have HC := Lib.hid (HC0.out.same hc)
          have HB3 := Lib.hid (hc.blk HBB.out.2.2.2 (no_not _))
          have c0 := fun i => bCell (hc.blk HBB.out.1 (no_not _)) i
          have c1 := fun i => bCell (hc.blk HBB.out.2.1 (no_not _)) i
          have c2 := fun i => bCell (hc.blk HBB.out.2.2.1 (no_not _)) i
          have c3 := fun i => bCell HB3.out i
          have f3 := fun i => bFree HB3.out i
          clear hc
          go_wp2_with fail
          have hx := bSet (bSet HB3.out 0 (.string s)) 1 (.bool true)
          simp only [List.setIfInBounds_toArray, List.set_cons_zero, List.set_cons_succ] at hx
          have hy : Ch no w ((w1.setCell ⟨g + 1 + 1 + 1, 0, none⟩ (.string s)).setCell ⟨g + 1 + 1 + 1, 1, none⟩ (.bool true)) := by
            have hgs := HG.out
            exact (HC.out.set (p := ⟨g + 1 + 1 + 1, 0, none⟩) (.inr (by simp; omega)) _).set (p := ⟨g + 1 + 1 + 1, 1, none⟩) (.inr (by simp; omega)) _
          have HX := Lib.hid hx; have HY := Lib.hid hy
          clear hx hy c0 c1 c2 c3 f3
          have d0 := (bCell HX.out 0).trans rfl
          have d1 := (bCell HX.out 1).trans rfl
          exact bodyPost_ret (v := .tuple #[.agg #[.string s, .bool true], .bool true]) (by simp [results, Tryd.results62, go_sem, d0, d1, HN.out]) rfl ⟨by rw [HR.out], HY.out⟩
        · have HR : Hid (bothB ⟨so, io⟩ ⟨sa, true⟩ ⟨sb, true⟩ = (⟨s, true⟩, false)) := Lib.hid (by simp only [bothB]; rw [HRR.out]; simp [hs] <;> omega)
          have HN : Hid (n = 0) := Lib.hid (by omega)
          have h02 : ¬ (0 : Int) < (n : Int) := by omega
          clear hs h0 hms hmo
          obtain ⟨W4, hW4⟩ : ∃ W4, ((((w.alloc (atB so io)).alloc (atB sa true)).alloc (atB sb true)).alloc (atB ⟨#[]⟩ false)) = W4 := ⟨_, rfl⟩
          rw [hW4] at HBB HC0
          go_enter Tryd.func62, Tryd.ntmps62
          have q0 := fun i => bCell HBB.out.1 i
          have q1 := fun i => bCell HBB.out.2.1 i
          have q2 := fun i => bCell HBB.out.2.2.1 i
          go_upto_region 1 with (fail)
          rw [HG.out]
          clear hW4
          go_wp2_with fail
          refine (HTT.out _).mono ?_
          rintro e w1 ⟨rfl, hc⟩
          clear q0 q1 q2
          have HC := Lib.hid (HC0.out.same hc)
          have HB3 := Lib.hid (hc.blk HBB.out.2.2.2 (no_not _))
          have c0 := fun i => bCell (hc.blk HBB.out.1 (no_not _)) i
          have c1 := fun i => bCell (hc.blk HBB.out.2.1 (no_not _)) i
          have c2 := fun i => bCell (hc.blk HBB.out.2.2.1 (no_not _)) i
          have c3 := fun i => bCell HB3.out i
          have f3 := fun i => bFree HB3.out i
          clear hc
          go_wp2_with fail
          have hx := bSet (bSet HB3.out 0 (.string s)) 1 (.bool true)
          simp only [List.setIfInBounds_toArray, List.set_cons_zero, List.set_cons_succ] at hx
          have hy : Ch no w ((w1.setCell ⟨g + 1 + 1 + 1, 0, none⟩ (.string s)).setCell ⟨g + 1 + 1 + 1, 1, none⟩ (.bool true)) := by
            have hgs := HG.out
            exact (HC.out.set (p := ⟨g + 1 + 1 + 1, 0, none⟩) (.inr (by simp; omega)) _).set (p := ⟨g + 1 + 1 + 1, 1, none⟩) (.inr (by simp; omega)) _
          have HX := Lib.hid hx; have HY := Lib.hid hy
          clear hx hy c0 c1 c2 c3 f3
          have d0 := (bCell HX.out 0).trans rfl
          have d1 := (bCell HX.out 1).trans rfl
          exact bodyPost_ret (v := .tuple #[.agg #[.string s, .bool true], .bool false]) (by simp [results, Tryd.results62, go_sem, d0, d1, HN.out]) rfl ⟨by rw [HR.out], HY.out⟩

set_option maxRecDepth 100000 in
set_option maxHeartbeats 4000000 in
theorem one_of (o a b : At) (w : World) (HT : ¬ a = b → ¬ b = o → ¬ a = o → ∀ W : World, Calls Tryd.prog 84 #[.string o.text, .string a.text, .string b.text] W (TextP (textOf o.text a.text b.text) W)) (hn : ¬ a = b → ¬ b = o → ¬ a = o → (textOf o.text a.text b.text).2 ≤ 1000000) :
    Calls Tryd.prog 36 #[.agg #[.string o.text, .bool o.is], .agg #[.string a.text, .bool a.is], .agg #[.string b.text, .bool b.is]] w (AtP (oneB o a b) w) := by
  have HBT := Lib.hid fun (x1 : ¬ a = b) (x2 : ¬ b = o) (x3 : ¬ a = o) W => both_of o a b W (HT x1 x2 x3) (hn x1 x2 x3)
  clear HT hn
  obtain ⟨so, io⟩ := o
  obtain ⟨sa, ia⟩ := a
  obtain ⟨sb, ib⟩ := b
  obtain ⟨g, hg⟩ : ∃ g, w.heap.size = g := ⟨_, rfl⟩
  have hb := four w (atB so io) (atB sa ia) (atB sb ib) (atB ⟨#[]⟩ false)
  rw [hg] at hb
  have HBB := Lib.hid hb
  have HG := Lib.hid hg
  have HC0 : Hid (Ch no w ((((w.alloc (atB so io)).alloc (atB sa ia)).alloc (atB sb ib)).alloc (atB ⟨#[]⟩ false))) := Lib.hid ((((((Ch.refl no w).alloc _).alloc _).alloc _).alloc _))
  clear hb hg
  simp only [] at HBT
  have e1 := fun w => at_eq ⟨sa, ia⟩ ⟨sb, ib⟩ w
  have e2 := fun w => at_eq ⟨sb, ib⟩ ⟨so, io⟩ w
  have e3 := fun w => at_eq ⟨sa, ia⟩ ⟨so, io⟩ w
  simp only [] at e1 e2 e3
  by_cases h1 : (⟨sa, ia⟩ : At) = ⟨sb, ib⟩
  · have d1 : decide ((⟨sa, ia⟩ : At) = ⟨sb, ib⟩) = true := by simpa using h1
    rw [d1] at e1
    have HR : Hid (oneB ⟨so, io⟩ ⟨sa, ia⟩ ⟨sb, ib⟩ = (⟨sa, ia⟩, false)) := Lib.hid (by unfold oneB; rw [if_pos (.inl h1)])
    clear h1 d1 e2 e3
    clear HBT
    obtain ⟨W4, hW4⟩ : ∃ W4, ((((w.alloc (atB so io)).alloc (atB sa ia)).alloc (atB sb ib)).alloc (atB ⟨#[]⟩ false)) = W4 := ⟨_, rfl⟩
    rw [hW4] at HBB HC0
    go_enter Tryd.func36, Tryd.ntmps36
    have HB3 := Lib.hid HBB.out.2.2.2
    have HC := HC0
    have c0 := fun i => bCell HBB.out.1 i
    have c1 := fun i => bCell HBB.out.2.1 i
    have c2 := fun i => bCell HBB.out.2.2.1 i
    have c3 := fun i => bCell HB3.out i
    have f3 := fun i => bFree HB3.out i
    go_upto_region 1 with (fail)
    rw [HG.out]
    clear hW4
    go_wp2_with fail
    have hx := bSet (bSet HB3.out 0 (.string sa)) 1 (.bool ia)
    simp only [List.setIfInBounds_toArray, List.set_cons_zero, List.set_cons_succ] at hx
    have hy : Ch no w ((W4.setCell ⟨g + 1 + 1 + 1, 0, none⟩ (.string sa)).setCell ⟨g + 1 + 1 + 1, 1, none⟩ (.bool ia)) := by
      have hgs := HG.out
      exact (HC.out.set (p := ⟨g + 1 + 1 + 1, 0, none⟩) (.inr (by simp; omega)) _).set (p := ⟨g + 1 + 1 + 1, 1, none⟩) (.inr (by simp; omega)) _
    have HX := Lib.hid hx; have HY := Lib.hid hy
    clear hx hy c0 c1 c2 c3 f3
    have d0 := (bCell HX.out 0).trans rfl
    have d1 := (bCell HX.out 1).trans rfl
    exact bodyPost_ret (v := .tuple #[.agg #[.string sa, .bool ia], .bool false]) (by simp [results, Tryd.results36, go_sem, d0, d1]) rfl ⟨by rw [HR.out], HY.out⟩
  have d1 : decide ((⟨sa, ia⟩ : At) = ⟨sb, ib⟩) = false := by simpa using h1
  rw [d1] at e1
  by_cases h2 : (⟨sb, ib⟩ : At) = ⟨so, io⟩
  · have d2 : decide ((⟨sb, ib⟩ : At) = ⟨so, io⟩) = true := by simpa using h2
    rw [d2] at e2
    have HR : Hid (oneB ⟨so, io⟩ ⟨sa, ia⟩ ⟨sb, ib⟩ = (⟨sa, ia⟩, false)) := Lib.hid (by unfold oneB; rw [if_pos (.inr h2)])
    clear h1 d1 h2 d2 e3
    clear HBT
    obtain ⟨W4, hW4⟩ : ∃ W4, ((((w.alloc (atB so io)).alloc (atB sa ia)).alloc (atB sb ib)).alloc (atB ⟨#[]⟩ false)) = W4 := ⟨_, rfl⟩
    rw [hW4] at HBB HC0
    go_enter Tryd.func36, Tryd.ntmps36
    have HB3 := Lib.hid HBB.out.2.2.2
    have HC := HC0
    have c0 := fun i => bCell HBB.out.1 i
    have c1 := fun i => bCell HBB.out.2.1 i
    have c2 := fun i => bCell HBB.out.2.2.1 i
    have c3 := fun i => bCell HB3.out i
    have f3 := fun i => bFree HB3.out i
    go_upto_region 1 with (fail)
    rw [HG.out]
    clear hW4
    go_wp2_with fail
    have hx := bSet (bSet HB3.out 0 (.string sa)) 1 (.bool ia)
    simp only [List.setIfInBounds_toArray, List.set_cons_zero, List.set_cons_succ] at hx
    have hy : Ch no w ((W4.setCell ⟨g + 1 + 1 + 1, 0, none⟩ (.string sa)).setCell ⟨g + 1 + 1 + 1, 1, none⟩ (.bool ia)) := by
      have hgs := HG.out
      exact (HC.out.set (p := ⟨g + 1 + 1 + 1, 0, none⟩) (.inr (by simp; omega)) _).set (p := ⟨g + 1 + 1 + 1, 1, none⟩) (.inr (by simp; omega)) _
    have HX := Lib.hid hx; have HY := Lib.hid hy
    clear hx hy c0 c1 c2 c3 f3
    have d0 := (bCell HX.out 0).trans rfl
    have d1 := (bCell HX.out 1).trans rfl
    exact bodyPost_ret (v := .tuple #[.agg #[.string sa, .bool ia], .bool false]) (by simp [results, Tryd.results36, go_sem, d0, d1]) rfl ⟨by rw [HR.out], HY.out⟩
  have d2 : decide ((⟨sb, ib⟩ : At) = ⟨so, io⟩) = false := by simpa using h2
  rw [d2] at e2
  by_cases h3 : (⟨sa, ia⟩ : At) = ⟨so, io⟩
  · have d3 : decide ((⟨sa, ia⟩ : At) = ⟨so, io⟩) = true := by simpa using h3
    rw [d3] at e3
    have HR : Hid (oneB ⟨so, io⟩ ⟨sa, ia⟩ ⟨sb, ib⟩ = (⟨sb, ib⟩, false)) := Lib.hid (by unfold oneB; rw [if_neg (by rintro (h | h); exact h1 h; exact h2 h), if_pos h3])
    clear h1 d1 h2 d2 h3 d3
    clear HBT
    obtain ⟨W4, hW4⟩ : ∃ W4, ((((w.alloc (atB so io)).alloc (atB sa ia)).alloc (atB sb ib)).alloc (atB ⟨#[]⟩ false)) = W4 := ⟨_, rfl⟩
    rw [hW4] at HBB HC0
    go_enter Tryd.func36, Tryd.ntmps36
    have HB3 := Lib.hid HBB.out.2.2.2
    have HC := HC0
    have c0 := fun i => bCell HBB.out.1 i
    have c1 := fun i => bCell HBB.out.2.1 i
    have c2 := fun i => bCell HBB.out.2.2.1 i
    have c3 := fun i => bCell HB3.out i
    have f3 := fun i => bFree HB3.out i
    go_upto_region 1 with (fail)
    rw [HG.out]
    clear hW4
    go_wp2_with fail
    have hx := bSet (bSet HB3.out 0 (.string sb)) 1 (.bool ib)
    simp only [List.setIfInBounds_toArray, List.set_cons_zero, List.set_cons_succ] at hx
    have hy : Ch no w ((W4.setCell ⟨g + 1 + 1 + 1, 0, none⟩ (.string sb)).setCell ⟨g + 1 + 1 + 1, 1, none⟩ (.bool ib)) := by
      have hgs := HG.out
      exact (HC.out.set (p := ⟨g + 1 + 1 + 1, 0, none⟩) (.inr (by simp; omega)) _).set (p := ⟨g + 1 + 1 + 1, 1, none⟩) (.inr (by simp; omega)) _
    have HX := Lib.hid hx; have HY := Lib.hid hy
    clear hx hy c0 c1 c2 c3 f3
    have d0 := (bCell HX.out 0).trans rfl
    have d1 := (bCell HX.out 1).trans rfl
    exact bodyPost_ret (v := .tuple #[.agg #[.string sb, .bool ib], .bool false]) (by simp [results, Tryd.results36, go_sem, d0, d1]) rfl ⟨by rw [HR.out], HY.out⟩
  have d3 : decide ((⟨sa, ia⟩ : At) = ⟨so, io⟩) = false := by simpa using h3
  rw [d3] at e3
  have HR0 : Hid (oneB ⟨so, io⟩ ⟨sa, ia⟩ ⟨sb, ib⟩ = bothB ⟨so, io⟩ ⟨sa, ia⟩ ⟨sb, ib⟩) := Lib.hid (by unfold oneB; rw [if_neg (by rintro (h | h); exact h1 h; exact h2 h), if_neg h3])
  rw [HR0.out]
  obtain ⟨sr, ir, br, hr⟩ : ∃ sr ir br, bothB ⟨so, io⟩ ⟨sa, ia⟩ ⟨sb, ib⟩ = (⟨sr, ir⟩, br) := ⟨_, _, _, rfl⟩
  have HBT := Lib.hid (HBT.out h1 h2 h3)
  rw [hr] at HBT
  have HR := Lib.hid hr
  clear h1 h2 h3 d1 d2 d3 hr HR0
  obtain ⟨W4, hW4⟩ : ∃ W4, ((((w.alloc (atB so io)).alloc (atB sa ia)).alloc (atB sb ib)).alloc (atB ⟨#[]⟩ false)) = W4 := ⟨_, rfl⟩
  rw [hW4] at HBB HC0
  go_enter Tryd.func36, Tryd.ntmps36
  have q0 := fun i => bCell HBB.out.1 i
  have q1 := fun i => bCell HBB.out.2.1 i
  have q2 := fun i => bCell HBB.out.2.2.1 i
  go_upto_region 1 with (fail)
  rw [HG.out]
  clear hW4
  go_wp2_with fail
  refine (HBT.out _).mono ?_
  rintro e w1 ⟨rfl, hc⟩
  clear q0 q1 q2
  have HC := Lib.hid (HC0.out.same hc)
  have HB3 := Lib.hid (hc.blk HBB.out.2.2.2 (no_not _))
  have c0 := fun i => bCell (hc.blk HBB.out.1 (no_not _)) i
  have c1 := fun i => bCell (hc.blk HBB.out.2.1 (no_not _)) i
  have c2 := fun i => bCell (hc.blk HBB.out.2.2.1 (no_not _)) i
  have c3 := fun i => bCell HB3.out i
  have f3 := fun i => bFree HB3.out i
  clear hc
  go_wp2_with fail
  have hx := bSet (bSet HB3.out 0 (.string sr)) 1 (.bool ir)
  simp only [List.setIfInBounds_toArray, List.set_cons_zero, List.set_cons_succ] at hx
  have hy : Ch no w ((w1.setCell ⟨g + 1 + 1 + 1, 0, none⟩ (.string sr)).setCell ⟨g + 1 + 1 + 1, 1, none⟩ (.bool ir)) := by
    have hgs := HG.out
    exact (HC.out.set (p := ⟨g + 1 + 1 + 1, 0, none⟩) (.inr (by simp; omega)) _).set (p := ⟨g + 1 + 1 + 1, 1, none⟩) (.inr (by simp; omega)) _
  have HX := Lib.hid hx; have HY := Lib.hid hy
  clear hx hy c0 c1 c2 c3 f3
  have d0 := (bCell HX.out 0).trans rfl
  have d1 := (bCell HX.out 1).trans rfl
  exact bodyPost_ret (v := .tuple #[.agg #[.string sr, .bool ir], .bool br]) (by simp [results, Tryd.results36, go_sem, d0, d1]) rfl ⟨by rw [HR.out], HY.out⟩

end Go.Proofs.YtekeiieefkgopaaDoor.Bi
