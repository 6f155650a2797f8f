/- What an iterator hands out, in a slice; a text's lines; lines as a text. -/
import Derived.Test.YtekeiieefkgopaaDoorNo
import Derived.Lib.JoinLaws
namespace Go.Proofs.YtekeiieefkgopaaDoor.Np
open Go.RowKit Go.Proofs.YtekeiieefkgopaaDoor.Aa Go.Proofs.YtekeiieefkgopaaDoor.Vw Go.Proofs.YtekeiieefkgopaaDoor.Ma Go.Proofs.YtekeiieefkgopaaDoor.Mr Go.Proofs.YtekeiieefkgopaaDoor.Mb Go.Proofs.YtekeiieefkgopaaDoor.Mc Go.Proofs.YtekeiieefkgopaaDoor.Mj Go.Proofs.YtekeiieefkgopaaDoor.Na Go.Proofs.YtekeiieefkgopaaDoor.Ne Go.Proofs.YtekeiieefkgopaaDoor.Nh Go.Proofs.YtekeiieefkgopaaDoor.No
attribute [local go_sem] Oper.semAt_some
set_option linter.unusedVariables false
set_option linter.unusedSimpArgs false

/-- The slice in the making. -/
structure AI (w X : World) (T : Nat → Prop) (g B : Nat) (v : Value) (pre : List ByteArray) : Prop where
  ch : Ch T w X
  box : X.heap[g]? = some (.cells #[v] 25 (0, 0))
  own : OwnS X B v pre
theorem AI.keep {S T : Nat → Prop} {w X Y : World} {g B : Nat} {v : Value} {pre : List ByteArray} (h : AI w X T g B v pre) (hc : Ch S X Y) (h0 : ∀ k, S k → T k ∨ w.heap.size ≤ k) (hg : ¬ S g) (hv : ∀ k, v.ownBlock = some k → ¬ S k) : AI w Y T g B v pre :=
  ⟨⟨hc.os.trans h.ch.os, hc.tape.trans h.ch.tape, hc.output.trans h.ch.output, Nat.le_trans h.ch.size hc.size, fun k hk hn => (hc.block k (Nat.lt_of_lt_of_le hk h.ch.size) (fun hs => by rcases h0 k hs with h | h; exact hn h; omega)).trans (h.ch.block k hk hn)⟩,
    hc.blk h.box hg, own_ch h.own hc hv⟩

set_option maxRecDepth 100000 in
set_option maxHeartbeats 8000000 in
theorem appseq_of (gf : Nat) (lb : Array Value) (T : Nat → Prop) (xs : List ByteArray) (w : World) (heg : ∀ args w, (callFunc gf args).run Tryd.prog w = .ok (.enter gf args) w)
    (hT : ∀ k, T k → k < w.heap.size) (hlen : xs.length * 16 ≤ 1000000000) (hseq : ∀ (n : Nat) (U : Nat → Prop) (W : World), Ch no w W → (∀ k, U k → w.heap.size ≤ k) → Iter Fence.wide n Tryd.prog gf lb (fun x : ByteArray => #[.string x]) T U xs W) :
    Calls Tryd.prog 131 #[.slice none 0 0, .func (.func gf) #[] lb] w fun e w' => ∃ v, e = .returned v ∧ OwnS w' w.heap.size v xs ∧ Ch T w w' := by
  obtain ⟨i0, hi, hz0, hz1, hz2⟩ := info_parts infoStr
  have HT := Lib.hid hT; have HS := Lib.hid hseq; have HL := Lib.hid hlen
  clear hT hseq hlen
  refine (callsIn_wide (n := 9)).1 (callsIn_of_wp_marks Tryd.func131 rfl trivial ?_ rfl)
  simp only [Tryd.ntmps131, List.size_toArray, List.length_cons, List.length_nil, Nat.reduceAdd, Nat.reduceSub, Array.replicate_succ, Array.replicate_zero, List.push_toArray, List.append_toArray, List.nil_append, List.cons_append]
  refine wpIn_wide.2 ?_
  obtain ⟨g, hg⟩ : ∃ g, w.heap.size = g := ⟨_, rfl⟩
  have HG := Lib.hid hg
  have HI0 : Hid (AI w (w.alloc (.cells #[.slice none 0 0] 25)) T g (g + 3) (.slice none 0 0) []) := Lib.hid ⟨(Ch.refl _ _).alloc _, by rw [← hg]; exact al1 w _, ⟨rfl, .inl ⟨rfl, rfl⟩⟩⟩
  have hsz : (w.alloc (.cells #[.slice none 0 0] 25)).heap.size = g + 1 := by rw [← hg]; simp
  have HC0 : Hid (Ch no w (w.alloc (.cells #[.slice none 0 0] 25))) := Lib.hid ((Ch.refl no w).alloc _)
  have HSZ := Lib.hid hsz
  clear hg hsz
  go_wp2_with fail
  obtain ⟨W1, hW1⟩ : ∃ W1, w.alloc (.cells #[.slice none 0 0] 25) = W1 := ⟨_, rfl⟩
  rw [hW1] at HI0 HSZ HC0 ⊢
  rw [HG.out]
  clear hW1
  refine (wpIn_wide (n := 9)).1 ?_
  refine wpIn_range rfl (by omega) (gf := gf) (lb := lb) rfl trivial heg (encs := fun x : ByteArray => #[.string x]) (T := T) (V := fun k => k = g ∨ g + 3 ≤ k) (xs := xs) ?seq ?hT ?hV (fun _ => rfl)
    (fun pre X => ∃ v, Hid (AI w X T g (g + 3) v pre)) ?hI ⟨_, HI0⟩
    (fun x a' X => a' = { tmps := #[.slice none 0 0, .func (.func gf) #[] lb, .pointer (some ⟨g, 0, none⟩), undef, .slice none 0 0, .string x, .func (.func gf) #[] lb, .string x, undef, undef, undef, undef, undef], defers := [] }) ?hAx ?assign ?body ?done
  case seq =>
    have hz := HSZ.out; have hg := HG.out
    exact HS.out _ _ _ HC0.out (by rintro k ((h | h) | h | h) <;> omega)
  case hT =>
    intro k hk
    have := HT.out k hk; have hz := HSZ.out; have hg := HG.out
    omega
  case hV =>
    have hz := HSZ.out
    rintro k (h | h) <;> omega
  case hI =>
    have hz := HSZ.out; have hg := HG.out
    rintro pre A B ⟨v, HI⟩ hc
    refine ⟨v, Lib.hid (HI.out.keep hc ?_ ?_ ?_)⟩
    · rintro k (h | h | h)
      · exact .inl h
      · right; omega
      · right; omega
    · rintro (h | h | h)
      · have := HT.out _ h; omega
      · omega
      · omega
    · intro k hk
      have := own_ge HI.out.own k hk
      rintro (h | h | h)
      · have := HT.out _ h; omega
      · omega
      · omega
  case hAx => exact fun x a' A B h _ => h
  case assign =>
    intro l pre x X K hX hI hK
    gi_wp2_with fail
    exact hK _ _ (Ch.refl _ X) hI rfl
  case body =>
    rintro l pre x a' X hX ⟨v, HI⟩ rfl ⟨r, hr⟩
    have hpl : (pre.length + 1) * 16 ≤ 1000000000 := by
      have := HL.out; rw [hr] at this; simp at this; omega
    have HR := Lib.hid hr
    clear hr
    have hcb := (bCell HI.out.box 0).trans rfl
    have hXs : g + 3 ≤ X.heap.size := by have := HSZ.out; omega
    have HCA := Lib.hid ((Ch.refl no X).alloc (.cells #[.string x] 9))
    have HNW : Hid (∀ j u, ([.string x] : List Value)[j]? = some u → (X.alloc (.cells #[.string x] 9)).cell? ((⟨X.heap.size, 0, none⟩ : Addr).add j) = some u) := Lib.hid (by
      intro j u hj
      have e : (⟨X.heap.size, 0, none⟩ : Addr).add j = ⟨X.heap.size, j, none⟩ := by cases j <;> simp [Addr.add]
      rw [e, bCell (bNew X _) j]
      simpa using hj)
    have HON : Hid (∀ u ∈ ([.string x] : List Value), u.oneCell' = true) := Lib.hid (by
      intro u hu
      simp at hu
      subst hu; rfl)
    gi_wp2_with (gi_at_builtin; refine wpListIn_append_own _ rfl _ _ 25 rfl (g + 3) 9 i0 _ 1 16 Tryd.underlying25 hi hz0 hz1 hz2 rfl (by omega) v pre.length _ rfl (own_ch HI.out.own HCA.out (fun _ _ => no_not _)) ⟨X.heap.size, 0, none⟩ 1 1 [.string x] rfl rfl HNW.out HON.out (by unfold maxLen; omega) (by omega) (by simp; omega) ?_; intro v' w1 hown hgrow _; obtain ⟨A1, k1, hv'⟩ := Ne.own_shape hown; subst hv'; have hgc := grown_ch hgrow; have hb1 := hgc.blk (HCA.out.blk HI.out.box (no_not _)) (fun h => by have := own_ge HI.out.own _ h.symm; omega); have hf1 := bFree hb1 0; have hc1 := (bCell hb1 0).trans rfl; have HO1 := Lib.hid hown; have HGC := Lib.hid hgc; have HB1 := Lib.hid hb1; clear hown hgrow hgc hb1)
    have hs1 := Ch.set1 w1 g 0 (.slice A1 (pre.length + 1) k1)
    have hv1 : ∀ k, (Value.slice A1 (pre.length + 1) k1).ownBlock = some k → g + 3 ≤ k := own_ge HO1.out
    have hv0 : ∀ k, v.ownBlock = some k → g + 3 ≤ k := own_ge HI.out.own
    have hx1 : Ch (fun k => k = g ∨ g + 3 ≤ k) X (w1.setCell ⟨g, 0, none⟩ (.slice A1 (pre.length + 1) k1)) :=
      ((HCA.out.mono (fun _ h => h.elim)).same (HGC.out.mono (fun k h => .inr (hv0 k h.symm)))).same (hs1.mono (fun k h => .inl h))
    refine ⟨hx1, _, Lib.hid ⟨?_, bSet HB1.out 0 (.slice A1 (pre.length + 1) k1), ?_⟩⟩
    · have hc := HI.out.ch
      have hg := HG.out
      exact ⟨hx1.os.trans hc.os, hx1.tape.trans hc.tape, hx1.output.trans hc.output, Nat.le_trans hc.size hx1.size, fun k hk hn => (hx1.block k (Nat.lt_of_lt_of_le hk hc.size) (fun hs => by rcases hs with h | h <;> omega)).trans (hc.block k hk hn)⟩
    · exact own_ch (show w1.ownsRow (g + 3) 9 1 (.slice A1 (pre.length + 1) k1) (pre ++ [x]).length ((pre ++ [x]).map Value.string) by have := HO1.out; rw [List.length_append, List.map_append]; exact this) hs1 (fun k hk h => by have := hv1 k hk; have h' : k = g := h; omega)
  case done =>
    intro X ⟨v, HI⟩ hZ' hK
    have HKK := Lib.hid hK
    clear hK
    have hcb := (bCell HI.out.box 0).trans rfl
    go_wp2_with fail
    refine ⟨by simp, .inl ⟨_, _, rfl, run_takeDeferred HKK.out, ?_⟩⟩
    have hput := ch_putObj X W1.heap.size (.deferred none)
    have hz := HSZ.out; have hg := HG.out
    have hfin := HI.out.keep hput (fun k h => .inr (by have h' : k = W1.heap.size := h; omega)) (fun h => by have h' : g = W1.heap.size := h; omega) (fun k hk h => by have := own_ge HI.out.own k hk; have h' : k = W1.heap.size := h; omega)
    exact ⟨_, results_tmp rfl _ _ _, _, rfl, own_less hfin.own (by omega), hfin.ch⟩

theorem split_len (n : Nat) (s : ByteArray) : (splitN n s).length ≤ s.size := by
  induction n generalizing s with
  | zero => simp [splitN]
  | succ n ih =>
    simp only [splitN]
    split
    · simp
    · rename_i h
      have := ih (s.extract (nlAt s) s.size)
      have h1 := nlAt_pos s h
      have h2 := nlAt_le s
      simp only [ByteArray.size_extract] at this
      simp only [List.length_cons]
      omega

set_option maxHeartbeats 1000000 in
theorem collect_of (gf : Nat) (lb : Array Value) (T : Nat → Prop) (xs : List ByteArray) (w : World) (heg : ∀ args w, (callFunc gf args).run Tryd.prog w = .ok (.enter gf args) w)
    (hT : ∀ k, T k → k < w.heap.size) (hlen : xs.length * 16 ≤ 1000000000) (hseq : ∀ (n : Nat) (U : Nat → Prop) (W : World), Ch no w W → (∀ k, U k → w.heap.size ≤ k) → Iter Fence.wide n Tryd.prog gf lb (fun x : ByteArray => #[.string x]) T U xs W) :
    Calls Tryd.prog 110 #[.func (.func gf) #[] lb] w fun e w' => ∃ v, e = .returned v ∧ OwnS w' w.heap.size v xs ∧ Ch T w w' := by
  have HT := Lib.hid hT; have HS := Lib.hid hseq; have HL := Lib.hid hlen; have HE := Lib.hid heg
  clear hT hseq hlen heg
  go_enter Tryd.func110, Tryd.ntmps110
  go_wp2_with fail
  refine (appseq_of gf lb T xs w HE.out HT.out HL.out HS.out).mono ?_
  rintro e w1 ⟨v, rfl, hown, hch⟩
  have HO := Lib.hid hown; have HC := Lib.hid hch
  clear hown hch
  go_wp2_with fail
  go_ret
  exact ⟨_, rfl, HO.out, HC.out⟩

set_option maxHeartbeats 1000000 in
theorem split_of (s : ByteArray) (w : World) (hs : s.size ≤ 60000000) :
    Calls Tryd.prog 96 #[.string s] w fun e w' => ∃ v, e = .returned v ∧ OwnS w' w.heap.size v (splitS s) ∧ Ch no w w' := by
  have hl := split_len s.size s
  go_enter Tryd.func96, Tryd.ntmps96
  go_wp2_with fail
  refine (each_of s w).mono ?_
  rintro e w1 ⟨rfl, hb, hch⟩
  have hz : w.heap.size < w1.heap.size := blk_lt' hb
  have HB := Lib.hid hb; have HC := Lib.hid hch
  clear hb hch
  go_wp2_with fail
  refine (collect_of 132 #[.pointer (some ⟨w.heap.size, 0, none⟩)] (one w.heap.size) (splitS s) w1 (Go.Proofs.enters_of Tryd.func132 (by kernel_rfl) rfl) (fun k (h : k = w.heap.size) => by omega) (by unfold splitS; omega)
    (fun n U W hW hU => each_iter n w.heap.size U s W (hW.blk HB.out (no_not _)) (by omega) (fun h => by have := hU _ h; omega))).mono ?_
  rintro e w2 ⟨v, rfl, hown, hch⟩
  have HO := Lib.hid hown; have HC2 := Lib.hid hch
  clear hown hch
  go_wp2_with fail
  go_ret
  exact ⟨_, rfl, own_less HO.out HC.out.size, HC.out.trans HC2.out (fun i hi (h : i = w.heap.size) => by omega)⟩

/-- Lines as a text. -/
def joinS (xs : List ByteArray) : ByteArray := ⟨(xs.flatMap (·.data.toList)).toArray⟩

theorem binary_of (s : ByteArray) (w : World) :
    Calls Tryd.prog 94 #[.string s] w fun e w' => e = .returned (.bool (decide (0 ≤ Lib.indexByte s.data.toList 0))) ∧ w = w' := by
  go_enter Tryd.func94, Tryd.ntmps94
  go_wp2_with fail
  refine (Tryd.strings_Contains_one s 0 _).mono ?_
  rintro e w' ⟨rfl, hw⟩
  rw [hw]
  clear hw w'
  obtain ⟨b, hb⟩ : ∃ b, decide (0 ≤ Lib.indexByte s.data.toList 0) = b := ⟨_, rfl⟩
  rw [hb]
  have HB := Lib.hid hb
  clear hb
  go_wp2_with fail
  go_ret
  exact ⟨by rw [HB.out]; rfl, rfl⟩

theorem join_empty (l : List (List UInt8)) : Lib.join l [] = l.flatten := by
  cases l with
  | nil => rfl
  | cons x r => rw [Lib.join_cons]; simp [Lib.joinTail]
theorem join_of (v : Value) (xs : List ByteArray) (B : Nat) (w : World) (hown : OwnS w B v xs) (hlen : (joinS xs).size ≤ 140737488355328) (hn : xs.length ≤ 140737488355328) :
    Calls Tryd.prog 97 #[v] w fun e w' => e = .returned (.string (joinS xs)) ∧ Ch no w w' := by
  have he : Lib.join (xs.map (·.data.toList)) (⟨#[]⟩ : ByteArray).data.toList = xs.flatMap (·.data.toList) := by
    rw [show (⟨#[]⟩ : ByteArray).data.toList = [] from rfl, join_empty]; rfl
  obtain ⟨hl, ⟨rfl, hz⟩ | ⟨g, cap, cur, rfl, hb, hg, hnc, hc, hs, ht⟩⟩ := hown
  · have hx : xs = [] := by rw [List.length_eq_zero_iff] at hz; exact hz
    subst hx
    clear hl hz he
    go_enter Tryd.func97, Tryd.ntmps97
    go_wp2_with fail
    refine (Tryd.strings_Join_none none 0 _ _).mono ?_
    rintro e w' ⟨rfl, hw⟩
    rw [hw]
    clear hw w'
    go_wp2_with fail
    go_ret
    exact ⟨rfl, Ch.refl _ _⟩
  · have hcells : ∀ (j : Nat) x, xs[j]? = some x → w.cell? ⟨g, 0 + j, none⟩ = some (.string x) := by
      intro j x hx
      have hlt := (List.getElem?_eq_some_iff.1 hx).1
      rw [Nat.zero_add, bCell hg, ← Array.getElem?_toList]
      have h4 : (xs.map Value.string)[j]? = some (.string x) := by rw [List.getElem?_map, hx]; rfl
      rw [← ht, List.getElem?_take] at h4
      split at h4
      · exact h4
      · cases h4
    have HJ := Lib.hid (Tryd.strings_Join g 0 cap xs ⟨#[]⟩ w hcells (blk_lt' hg) hn hnc (by rw [he]; exact hlen))
    have HE := Lib.hid he
    clear hl ht hcells he hs hc
    go_enter Tryd.func97, Tryd.ntmps97
    go_wp2_with fail
    refine HJ.out.mono ?_
    rintro e w' ⟨rfl, hw⟩
    rw [HE.out]
    have HW := Lib.hid hw
    clear hw
    obtain ⟨r, hr⟩ : ∃ r, joinS xs = r := ⟨_, rfl⟩
    have hr2 : (⟨(xs.flatMap (·.data.toList)).toArray⟩ : ByteArray) = r := hr
    rw [hr2]
    have HR := Lib.hid hr
    clear hr hr2 HE HJ
    go_wp2_with fail
    go_ret
    exact ⟨by rw [HR.out]; rfl, Ch.of_below HW.out⟩

end Go.Proofs.YtekeiieefkgopaaDoor.Np
