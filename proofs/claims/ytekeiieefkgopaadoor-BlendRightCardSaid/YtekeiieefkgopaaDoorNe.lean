/- The regions in the making: one more behind the last one. -/
import Derived.Test.YtekeiieefkgopaaDoorNd
import Derived.Deep.AppendLies
namespace Go.Proofs.YtekeiieefkgopaaDoor.Ne
open Go.RowKit Go.Proofs.YtekeiieefkgopaaDoor.Aa Go.Proofs.YtekeiieefkgopaaDoor.Vw Go.Proofs.YtekeiieefkgopaaDoor.Ma Go.Proofs.YtekeiieefkgopaaDoor.Mr Go.Proofs.YtekeiieefkgopaaDoor.Mb Go.Proofs.YtekeiieefkgopaaDoor.Mc Go.Proofs.YtekeiieefkgopaaDoor.Mt Go.Proofs.YtekeiieefkgopaaDoor.Na Go.Proofs.YtekeiieefkgopaaDoor.Nb Go.Proofs.YtekeiieefkgopaaDoor.Nc
set_option linter.unusedVariables false
set_option linter.unusedSimpArgs false

theorem infoReg : (Tryd.prog.info? 144).map (fun i => (i.zero, i.size, i.bytes)) = some (some (.agg #[.int .i64 0, .int .i64 0, .int .i64 0, .int .i64 0, .int .i64 0, .int .i64 0, .int .i64 0]), 7, 56) := by kernel_rfl
/-- Regions of the call's own. -/
def OwnR (w : World) (B : Nat) (v : Value) (rs : List Reg) : Prop := w.ownsRow B 144 7 v rs.length (rs.flatMap Reg.cells)
theorem flat_len7 (rs : List Reg) : (rs.flatMap Reg.cells).length = rs.length * 7 := by
  induction rs with
  | nil => rfl
  | cons r rs ih => rw [List.flatMap_cons, List.length_append, ih]; simp [Reg.cells]; omega
theorem own_shape {w : World} {base : Nat} {e : TypeId} {size n : Nat} {v : Value} {xs : List Value} (h : w.ownsRow base e size v n xs) : ∃ A c, v = .slice A n c := by
  obtain ⟨_, ⟨rfl, rfl⟩ | ⟨g, cap, cur, rfl, _⟩⟩ := h
  · exact ⟨_, _, rfl⟩
  · exact ⟨_, _, rfl⟩

set_option maxRecDepth 100000 in
set_option maxHeartbeats 8000000 in
theorem add_of (r : Reg) (many m0 m1 : Int) (gl go B : Nat) (v : Value) (rs : List Reg) (w : World) (hr : smallR r) (h0 : -1000000000 ≤ many ∧ many ≤ 1000000000) (h1 : -1000000000 ≤ m0 ∧ m0 ≤ 1000000000) (h2 : -1000000000 ≤ m1 ∧ m1 ≤ 1000000000)
    (hl : w.heap[gl]? = some (.cells r.cells.toArray 144 (0, 0))) (ho : w.heap[go]? = some (.cells #[v] 139 (0, 0))) (hown : OwnR w B v rs) (hlB : gl < B) (hoB : go < B) (hne : gl ≠ go) (hB : B ≤ w.heap.size) (hn : rs.length ≤ 1000000000) :
    Calls Tryd.prog 125 #[.int .i64 many, .agg #[.int .i64 m0, .int .i64 m1], .pointer (some ⟨gl, 0, none⟩), .pointer (some ⟨go, 0, none⟩)] w fun e w' => ∃ g cap, e = .returned (.pointer (some ⟨g, rs.length * 7, none⟩)) ∧
      w'.heap[gl]? = some (.cells (nextR r many m0 m1).cells.toArray 144 (0, 0)) ∧ w'.heap[go]? = some (.cells #[.slice (some ⟨g, 0, none⟩) (rs.length + 1) cap] 139 (0, 0)) ∧
      OwnR w' B (.slice (some ⟨g, 0, none⟩) (rs.length + 1) cap) (rs ++ [nextR r many m0 m1]) ∧ Ch (fun k => k = gl ∨ k = go ∨ v.ownBlock = some k) w w' := by
  obtain ⟨k, of, om, af, am, bf, bm⟩ := r
  simp only [Reg.cells] at hl
  obtain ⟨A, c, rfl⟩ := own_shape hown
  have hbo := Lib.hid (fun q (hq : (Value.slice A rs.length c).ownBlock = some q) => own_ge hown q hq)
  have HL := Lib.hid hl; have HO := Lib.hid ho; have HN := Lib.hid hown
  clear hl ho hown
  have hls := blk_lt' HL.out; have hos := blk_lt' HO.out
  go_enter Tryd.func125, Tryd.ntmps125
  obtain ⟨b, hb⟩ : ∃ b, w.heap.size = b := ⟨_, rfl⟩
  have hc := fun i => bCell (((Ch.refl no w).alloc (.cells #[.int .i64 m0, .int .i64 m1] 153)).blk HL.out (no_not _)) i
  go_wp2_with fail
  refine (next_of ⟨k, of, om, af, am, bf, bm⟩ many m0 m1 _ hr h0 h1 h2).mono ?_
  rintro e w1 ⟨rfl, hch⟩
  clear hc
  have HCH := Lib.hid hch; clear hch hb
  have hq1 := HCH.out.blk (((Ch.refl no w).alloc (.cells #[.int .i64 m0, .int .i64 m1] 153)).blk HL.out (no_not _)) (no_not _)
  have hc := fun i => bCell hq1 i
  have hf := fun i => bFree hq1 i
  have hx := bSet (bSet (bSet (bSet (bSet (bSet (bSet hq1 0 (.int .i64 0)) 1 (.int .i64 (of + om))) 2 (.int .i64 many)) 3 (.int .i64 (af + am))) 4 (.int .i64 (many + m0))) 5 (.int .i64 (bf + bm))) 6 (.int .i64 (many + m1))
  simp only [List.setIfInBounds_toArray, List.set_cons_zero, List.set_cons_succ] at hx
  have hs1 : ∀ (X : World), Ch (one gl) w1 X → ∀ j v, Ch (one gl) w1 (X.setCell ⟨gl, j, none⟩ v) := fun X hX j v => ch_one hX rfl j v
  have hy := hs1 _ (hs1 _ (hs1 _ (hs1 _ (hs1 _ (hs1 _ (hs1 _ (Ch.refl (one gl) w1) 0 (.int .i64 0)) 1 (.int .i64 (of + om))) 2 (.int .i64 many)) 3 (.int .i64 (af + am))) 4 (.int .i64 (many + m0))) 5 (.int .i64 (bf + bm))) 6 (.int .i64 (many + m1))
  have HX := Lib.hid hx; have HY := Lib.hid hy
  clear hx hy hs1
  simp only [nextR]
  go_upto_region 2 with (fail)
  refine wp_world (fun X => Hid (X.heap[gl]? = some (.cells #[.int .i64 0, .int .i64 (of + om), .int .i64 many, .int .i64 (af + am), .int .i64 (many + m0), .int .i64 (bf + bm), .int .i64 (many + m1)] 144 (0, 0)) ∧ Ch (one gl) w1 X)) ⟨HX.out, HY.out⟩ ?_
  clear HX HY hc hf hq1
  intro X HX
  have hc0 : Ch (one gl) w X := (((Ch.refl (one gl) w).alloc _).same (HCH.out.mono (fun _ h => h.elim))).same HX.out.2
  have hgo := hc0.blk HO.out (fun h => hne h.symm)
  have hown := own_ch HN.out hc0 (fun q hq h => by have := hbo.out q hq; have : q = gl := h; omega)
  have hc := fun i => bCell HX.out.1 i
  have hco := (bCell hgo 0).trans rfl
  have HGO := Lib.hid hgo; have HOW := Lib.hid hown; have HC0 := Lib.hid hc0
  clear hgo hown hc0
  obtain ⟨i0, hi, hz0, hz1, hz2⟩ := info_parts infoReg
  have hca : Ch no X (X.alloc (.cells #[.int .i64 0, .int .i64 (of + om), .int .i64 many, .int .i64 (af + am), .int .i64 (many + m0), .int .i64 (bf + bm), .int .i64 (many + m1)] 144)) := (Ch.refl no X).alloc _
  have hnews : ∀ j u, ([.int .i64 0, .int .i64 (of + om), .int .i64 many, .int .i64 (af + am), .int .i64 (many + m0), .int .i64 (bf + bm), .int .i64 (many + m1)] : List Value)[j]? = some u → (X.alloc (.cells #[.int .i64 0, .int .i64 (of + om), .int .i64 many, .int .i64 (af + am), .int .i64 (many + m0), .int .i64 (bf + bm), .int .i64 (many + m1)] 144)).cell? ((⟨X.heap.size, 0, none⟩ : Addr).add j) = some u := by
    intro j u hj
    have e : (⟨X.heap.size, 0, none⟩ : Addr).add j = ⟨X.heap.size, j, none⟩ := by cases j <;> simp [Addr.add]
    rw [e, bCell (bNew X _) j]
    simpa using hj
  have hone : ∀ u ∈ ([.int .i64 0, .int .i64 (of + om), .int .i64 many, .int .i64 (af + am), .int .i64 (many + m0), .int .i64 (bf + bm), .int .i64 (many + m1)] : List Value), u.oneCell' = true := by
    intro u hu
    simp at hu
    rcases hu with rfl | rfl | rfl | rfl | rfl | rfl | rfl <;> rfl
  have hXs : B ≤ X.heap.size := by have := HC0.out.size; omega
  have HCA := Lib.hid hca; have HNW := Lib.hid hnews; have HON := Lib.hid hone
  clear hca hnews hone
  go_wp2_with (at_builtin; refine wpList_append_lies _ rfl _ _ 139 rfl B 144 i0 _ 7 56 Tryd.underlying139 hi hz0 hz1 hz2 rfl (by omega) (.slice A rs.length c) rs.length _ rfl (own_ch HOW.out HCA.out (fun _ _ => no_not _)) ⟨X.heap.size, 0, none⟩ 1 1 [.int .i64 0, .int .i64 (of + om), .int .i64 many, .int .i64 (af + am), .int .i64 (many + m0), .int .i64 (bf + bm), .int .i64 (many + m1)] rfl rfl HNW.out HON.out (by omega) (by unfold maxLen; omega) (by omega) (by simp; omega) (X.heap.size + 1) (by simp) ?_; intro g cap w2 hown2 hgrow hat hlt; have hcw : Ch (fun q => some q = (Value.slice A rs.length c).ownBlock) X w2 := (HCA.out.mono (fun _ h => h.elim)).same (grown_ch hgrow); have hg2 := hcw.blk HGO.out (fun h => by have := hbo.out _ h.symm; omega); have hl2 := hcw.blk HX.out.1 (fun h => by have := hbo.out _ h.symm; omega); have hco2 := (bCell hg2 0).trans rfl; have hfo2 := bFree hg2 0; have HG2 := Lib.hid hg2; have HL2 := Lib.hid hl2; have HCW := Lib.hid hcw; have HO2 := Lib.hid hown2; have hgb : B ≤ g := own_ge hown2 g rfl; clear hg2 hl2 hcw hown2 hgrow hat)
  have hs2 := Ch.set1 w2 go 0 (.slice (some ⟨g, 0, none⟩) (rs.length + 1) cap)
  have hb2 := bSet HG2.out 0 (.slice (some ⟨g, 0, none⟩) (rs.length + 1) cap)
  have HS2 := Lib.hid hs2; have HB2 := Lib.hid hb2
  clear hs2 hb2
  go_ret
  refine ⟨g, cap, rfl, HS2.out.blk HL2.out (fun h => hne h), HB2.out, ?_, ?_⟩
  · have hnq : ∀ q, (Value.slice (some ⟨g, 0, none⟩) (rs.length + 1) cap).ownBlock = some q → ¬ one go q := by
      intro q hq h
      have e : g = q := by simpa [Value.ownBlock] using hq
      have e2 : q = go := h
      omega
    have hr2 := own_ch HO2.out HS2.out hnq
    unfold OwnR
    rw [List.length_append, List.flatMap_append]
    exact hr2
  · exact (((HC0.out.mono (fun q h => .inl h)).same (HCW.out.mono (fun q h => .inr (.inr h.symm)))).same (HS2.out.mono (fun q h => .inr (.inl h))))

end Go.Proofs.YtekeiieefkgopaaDoor.Ne
