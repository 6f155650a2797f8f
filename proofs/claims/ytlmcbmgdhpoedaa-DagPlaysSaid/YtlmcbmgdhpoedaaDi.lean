/- An id is added: walked. -/
import Derived.WalkMore
import Derived.Test.YtlmcbmgdhpoedaaDd
import Derived.Test.YtlmcbmgdhpoedaaDh
namespace Go.Proofs.Ytlmcbmgdhpoedaa.Di
open Go Go.RowKit Go.Proofs.Ytlmcbmgdhpoedaa.Aa Go.Proofs.Ytlmcbmgdhpoedaa.Vw Go.Proofs.Ytlmcbmgdhpoedaa.Mp Go.Proofs.Ytlmcbmgdhpoedaa.Mj Go.Proofs.Ytlmcbmgdhpoedaa.Da Go.Proofs.Ytlmcbmgdhpoedaa.Db Go.Proofs.Ytlmcbmgdhpoedaa.Dc Go.Proofs.Ytlmcbmgdhpoedaa.Dd Go.Proofs.Ytlmcbmgdhpoedaa.De Go.Proofs.Ytlmcbmgdhpoedaa.Df Go.Proofs.Ytlmcbmgdhpoedaa.Dg Go.Proofs.Ytlmcbmgdhpoedaa.Dh
set_option linter.unusedVariables false
set_option linter.unusedSimpArgs false

/-- Its maps, as the kit's contracts want them. -/
theorem in_map {w : World} {B n : Nat} {d : Gr} (h : DagV w B d) (hf : Fine d n) (hn : n ≤ 1000) : ∃ m, MapV Value.string w B m ∧ m.map (·.1) = d.ids ∧ m.length ≤ 1000000 ∧ ∀ p ∈ m, p.1.size ≤ maxLen := by
  obtain ⟨m, hm, he⟩ := h.inm
  have hk := he.keys
  rw [insP_keys] at hk
  refine ⟨m, hm, hk, ?_, fun p hp => ?_⟩
  · have h1 := congrArg List.length hk
    have h2 := hf.many
    simp only [List.length_map, Gr.ids] at h1
    omega
  · have h1 : p.1 ∈ d.ids := by rw [← hk]; exact List.mem_map.2 ⟨p, hp, rfl⟩
    obtain ⟨e, he', h2⟩ := List.mem_map.1 h1
    have := hf.idz e he'
    rw [h2] at this
    unfold maxLen; omega
theorem wt_map {w : World} {B n : Nat} {d : Gr} (h : DagV w B d) (hf : Fine d n) (hn : n ≤ 1000) : ∃ m, MapV Value.string w (B + 1) m ∧ m.map (·.1) = d.wids ∧ m.length ≤ 1000000 ∧ ∀ p ∈ m, p.1.size ≤ maxLen := by
  obtain ⟨m, hm, he⟩ := h.wtm
  have hk : m.map (·.1) = d.wids := he.keys
  refine ⟨m, hm, hk, ?_, fun p hp => ?_⟩
  · have h1 := congrArg List.length hk
    have h2 := hf.many
    simp only [List.length_map, Gr.wids] at h1
    omega
  · have h1 : p.1 ∈ d.wids := by rw [← hk]; exact List.mem_map.2 ⟨p, hp, rfl⟩
    obtain ⟨e, he', h2⟩ := List.mem_map.1 h1
    have := hf.widz e he'
    rw [h2] at this
    unfold maxLen; omega
theorem waitS_of (B : Nat) (d : Gr) (n : Nat) (w : World) (h : DagV w B d) (hf : Fine d n) (hn : n ≤ 1000) :
    Calls Try.prog 31 #[.map (some (B + 1))] w fun e w' => ∃ v, e = .returned v ∧ OwnS w' w.heap.size v (srt d.wids) ∧ Ch no w w' := by
  obtain ⟨m, hm, hk, h1, h2⟩ := wt_map h hf hn
  rw [← hk]
  exact sorted_of (B + 1) m w hm h1 h2
theorem inS_of (B : Nat) (d : Gr) (n : Nat) (w : World) (h : DagV w B d) (hf : Fine d n) (hn : n ≤ 1000) :
    Calls Try.prog 31 #[.map (some B)] w fun e w' => ∃ v, e = .returned v ∧ OwnS w' w.heap.size v (srt d.ids) ∧ Ch no w w' := by
  obtain ⟨m, hm, hk, h1, h2⟩ := in_map h hf hn
  rw [← hk]
  exact sorted_of B m w hm h1 h2
theorem ids_of (B : Nat) (d : Gr) (n : Nat) (w : World) (h : DagV w B d) (hf : Fine d n) (hn : n ≤ 1000) :
    Calls Try.prog 11 #[ptr B] w fun e w' => ∃ v, e = .returned v ∧ OwnS w' w.heap.size v d.allIds ∧ Ch no w w' := by
  have h0 := h.cell0
  have HD := Lib.hid h; have HF := Lib.hid hf; clear h hf
  go_enter Try.func11, Try.ntmps11
  go_wp2_with (refine (inS_of B d n _ HD.out HF.out hn).mono ?_; rintro e w1 ⟨v, rfl, hown, hch⟩; have HO := Lib.hid hown; have HC := Lib.hid hch; clear hown hch)
  go_ret
  exact ⟨_, rfl, HO.out, HC.out⟩
theorem waiting_of (B : Nat) (d : Gr) (n : Nat) (w : World) (h : DagV w B d) (hf : Fine d n) (hn : n ≤ 1000) :
    Calls Try.prog 17 #[ptr B] w fun e w' => ∃ v, e = .returned v ∧ OwnS w' w.heap.size v d.waiting ∧ Ch no w w' := by
  have h0 := h.cell1
  have HD := Lib.hid h; have HF := Lib.hid hf; clear h hf
  go_enter Try.func17, Try.ntmps17
  go_wp2_with (refine (waitS_of B d n _ HD.out HF.out hn).mono ?_; rintro e w1 ⟨v, rfl, hown, hch⟩; have HO := Lib.hid hown; have HC := Lib.hid hch; clear hown hch)
  go_ret
  exact ⟨_, rfl, HO.out, HC.out⟩
theorem parents_of (B : Nat) (d : Gr) (n : Nat) (x : Nm) (w : World) (h : DagV w B d) (hf : Fine d n) (hn : n ≤ 1000) :
    Calls Try.prog 27 #[ptr B, .string x] w fun e w' => ∃ v, e = .returned v ∧ OwnS w' w.heap.size v (d.parents x) ∧ Ch no w w' := by
  have h0 := h.cell0
  obtain ⟨v, hl, ⟨A, c, rfl, hr⟩⟩ := h.look_in (P := Try.prog) Try.underlying49 Try.underlying30 zeroIds x false
  simp only [Bool.false_eq_true, if_false] at hl
  have hlen : (d.par x).length ≤ 1000 := by
    unfold Gr.par
    cases hg : Da.get d.ins x with
    | none => simp
    | some v => exact hf.pl _ (get_some_mem hg)
  have HD := Lib.hid h; have HF := Lib.hid hf; have HX := Lib.hid hr; clear h hf hr
  go_enter Try.func27, Try.ntmps27
  go_wp2_with (refine (clone_any A c (d.par x) _ HX.out (by omega)).mono ?_; rintro e w1 ⟨v, rfl, hown, hch⟩; have HO := Lib.hid hown; have HC := Lib.hid hch; clear hown hch)
  go_ret
  exact ⟨_, rfl, HO.out, HC.out⟩

/-! One comes in, then all that wait for it alone. -/
theorem settle_none {k : Nat} {d : Gr} {out : List Nm} (h : d.first = none) : settleAll k d out = (d, out) := by
  cases k with
  | zero => rfl
  | succ k => unfold settleAll; rw [h]
theorem settle_some {k : Nat} {d : Gr} {out : List Nm} {x : Nm} (h : d.first = some x) : settleAll (k + 1) d out = settleAll k (d.enter x (d.wpar x)) (out ++ [x]) := by
  conv => lhs; unfold settleAll
  rw [h]
/-- None of the first k is ready. -/
def NoneYet (d : Gr) (k : Nat) : Prop := ((srt d.wids).take k).find? (fun x => d.ready (d.wpar x)) = none
theorem NoneYet.next {d : Gr} {k : Nat} (h : NoneYet d k) (hk : k < (srt d.wids).length) (hr : d.ready (d.wpar (srt d.wids)[k]) = false) : NoneYet d (k + 1) := by
  unfold NoneYet at *
  rw [List.take_succ_eq_append_getElem hk, List.find?_append, h]
  simp [hr]
theorem NoneYet.found {d : Gr} {k : Nat} (h : NoneYet d k) (hk : k < (srt d.wids).length) (hr : d.ready (d.wpar (srt d.wids)[k]) = true) : d.first = some (srt d.wids)[k] := by
  unfold NoneYet at h
  unfold Gr.first
  conv => lhs; rw [← List.take_append_drop k (srt d.wids)]
  rw [List.find?_append, h, ← List.getElem_cons_drop hk, List.find?_cons_of_pos (by exact hr)]
  rfl
theorem NoneYet.all {d : Gr} {k : Nat} (h : NoneYet d k) (hk : (srt d.wids).length ≤ k) : d.first = none := by
  unfold NoneYet at h
  rw [List.take_of_length_le hk] at h
  exact h

theorem NoneYet.next' {d : Gr} {S : List Nm} (hS : srt d.wids = S) {k : Nat} (h : NoneYet d k) (hk : k < S.length) (hr : d.ready (d.wpar S[k]) = false) : NoneYet d (k + 1) := by subst hS; exact h.next hk hr
theorem NoneYet.found' {d : Gr} {S : List Nm} (hS : srt d.wids = S) {k : Nat} (h : NoneYet d k) (hk : k < S.length) (hr : d.ready (d.wpar S[k]) = true) : d.first = some S[k] := by subst hS; exact h.found hk hr
/-- Between two rounds of Add's loop. -/
structure AL (r w wr : World) (B n : Nat) (d : Gr) (o : Value) (out : List Nm) (fin : Gr × List Nm) (k : Nat) : Prop where
  dag : DagR r wr B d
  fine : Fine d n
  own : OwnS wr r.heap.size o out
  ch : Ch (three B) w wr
  eq : settleAll k d out = fin
  le : d.waits.length ≤ k
  len : out.length + d.waits.length ≤ 1001
  rsz : r.heap.size ≤ wr.heap.size
theorem own_one (w : World) (x : Nm) (B : Nat) (hB : B ≤ w.heap.size) : OwnS (w.alloc (.cells #[.string x] 30)) B (.slice (some ⟨w.heap.size, 0, none⟩) 1 1) [x] :=
  ⟨by simp, .inr ⟨w.heap.size, 1, #[.string x], rfl, hB, bNew _ _, Nat.le_refl _, by unfold maxLen; omega, by simp, by simp⟩⟩
set_option maxRecDepth 100000 in
set_option maxHeartbeats 4000000 in
theorem add_of (B : Nat) (d : Gr) (n : Nat) (x : Nm) (v : Value) (ps : List Nm) (w : World) (h : DagV w B d) (hv : RowV w v ps) (hf : Fine d n) (hn : n < 1000) (hz : x.size ≤ 1000) (hl : ps.length ≤ 1000) (hp : ∀ p ∈ ps, p.size ≤ 1000) :
    Calls Try.prog 15 #[ptr B, .string x, v] w fun e w' => ∃ r, e = .returned r ∧ RowV w' r (d.add x ps).2 ∧ DagV w' B (d.add x ps).1 ∧ Ch (three B) w w' := by
  obtain ⟨A, c, rfl, hr⟩ := hv
  have h1 := h.cell1
  obtain ⟨u, hlk, hu⟩ := h.look_wt (P := Try.prog) Try.underlying49 Try.underlying30 zeroIds x true
  simp only [if_true] at hlk
  obtain ⟨hol, hop⟩ := own_fine hl hp
  have HD := Lib.hid h; have HX := Lib.hid hr; have HF := Lib.hid hf; have HP := Lib.hid hp; have HOP := Lib.hid hop; clear h hr hf hu hp hop
  cases hw : d.hasW x with
  | true =>
    have HA : Hid (d.add x ps = (d, [])) := Lib.hid (by unfold Gr.add Gr.known; rw [hw]; rfl)
    rw [hw] at hlk
    clear hw
    go_enter Try.func15, Try.ntmps15
    go_wp2_with fail
    go_step3
    go_wp2_with fail
    try rw [Exit.noGoto_ret]
    go_ret
    exact ⟨_, rfl, by rw [HA.out]; exact RowV.nil _, by rw [HA.out]; exact HD.out, Ch.refl _ _⟩
  | false =>
    rw [hw] at hlk
    have HW := Lib.hid hw; clear hw
    cases hh : d.has x with
    | true =>
      have HA : Hid (d.add x ps = (d, [])) := Lib.hid (by unfold Gr.add Gr.known; rw [HW.out, hh]; rfl)
      have HH := Lib.hid hh; clear hh
      go_enter Try.func15, Try.ntmps15
      go_wp2_with fail
      go_step3
      go_wp2_with (refine (has_of B d x _ HD.out).mono ?_; rintro e w' ⟨rfl, rfl⟩; rw [HH.out])
      try rw [Exit.noGoto_ret]
      go_ret
      exact ⟨_, rfl, by rw [HA.out]; exact RowV.nil _, by rw [HA.out]; exact HD.out, Ch.refl _ _⟩
    | false =>
      have HH := Lib.hid hh; clear hh
      go_enter Try.func15, Try.ntmps15
      go_wp2_with fail
      go_step3
      go_wp2_with (refine (has_of B d x _ HD.out).mono ?_; rintro e w' ⟨rfl, rfl⟩; rw [HH.out])
      refine (values_of A c ps _).mono ?_
      rintro e w1 ⟨rfl, hb1, hc1⟩
      have HB1 := Lib.hid hb1; have HC1 := Lib.hid hc1; clear hb1 hc1
      go_wp2_with fail
      refine (sortedV_of w.heap.size A c ps w1 HB1.out (HX.out.ch HC1.out) (by omega)).mono ?_
      rintro e w2 ⟨v2, rfl, hown2, hc2⟩
      have HO2 := Lib.hid hown2; have HC2 := Lib.hid hc2; clear hown2 hc2
      go_wp2_with fail
      refine (compact_of w1.heap.size v2 (srt ps) w2 HO2.out (by rw [srt_length]; omega)).mono ?_
      rintro e w3 ⟨v3, rfl, ⟨A3, c3, rfl, hr3⟩, hc3⟩
      have HX3 := Lib.hid hr3
      have HC3 : Hid (Ch no w w3) := Lib.hid ((HC1.out.then_ HC2.out).trans hc3 (fun i hi hs => by have := own_ge HO2.out i hs.symm; have := HC1.out.size; omega))
      clear hr3 hc3 HO2 HC2 HC1 HB1
      obtain ⟨own, hown⟩ : ∃ own, uniq (srt ps) = own := ⟨_, rfl⟩
      rw [hown] at HX3 hol HOP ⊢
      have HOW := Lib.hid hown; clear hown
      have HD3 := Lib.hid (HD.out.ch HC3.out)
      go_wp2_with fail
      refine (ready_of B d A3 c3 own w3 HD3.out HX3.out).mono ?_
      rintro e w' ⟨rfl, hww⟩
      subst hww
      cases hrd : d.ready own with
      | false =>
        have HA : Hid (d.add x ps = (⟨d.ins, d.waits ++ [(x, own)]⟩, [])) := Lib.hid (by unfold Gr.add Gr.known; rw [HW.out, HH.out, HOW.out, hrd]; rfl)
        have hk1 := HD3.out.cell1
        obtain ⟨m, hm, he⟩ := HD3.out.wtm
        obtain ⟨w4, hrun, hm4, hc4⟩ := run_put strKey Try.underlying49 Try.underlying30 hm x (.slice A3 own.length c3)
        have hxw : x ∉ m.map (·.1) := by
          rw [he.keys]
          have := HW.out
          unfold Gr.hasW Gr.wids at this
          rwa [decide_eq_false_iff_not] at this
        rw [mput_new hxw] at hm4
        have HD4 : Hid (DagV w4 B ⟨d.ins, d.waits ++ [(x, own)]⟩) := Lib.hid (by
          have hmp := HD3.out.maps
          have hc4' : Ch (three B) w3 w4 := hc4.mono (fun k h => .inr (.inl h))
          obtain ⟨m1, hm1, he1⟩ := HD3.out.inm
          exact ⟨hc4.blk HD3.out.box (fun h => by have h' : B + 3 = B + 1 := h; omega), ⟨m1, hm1.ch hc4 (fun h => by have h' : B = B + 1 := h; omega), he1.keep hmp hc4'⟩,
            ⟨_, hm4, (he.keep hmp hc4').snoc ⟨A3, c3, rfl, row_keep hmp hc4' HX3.out⟩⟩, HD3.out.lvm.ch hc4 (fun h => by have h' : B + 2 = B + 1 := h; omega), fun _ _ h => h⟩)
        have HC4 : Hid (Ch (three B) w w4) := Lib.hid ((HC3.out.mono (T := three B) (fun _ h => h.elim)).same (hc4.mono (fun k h => .inr (.inl h))))
        clear hm he hm4 hc4 hxw hrd
        go_wp2_with fail
        try rw [Exit.noGoto_ret]
        go_ret
        exact ⟨_, rfl, by rw [HA.out]; exact RowV.nil _, by rw [HA.out]; exact HD4.out, HC4.out⟩
      | true =>
        have HA : Hid (d.add x ps = settleAll d.waits.length (d.enter x own) [x]) := Lib.hid (by unfold Gr.add Gr.known; rw [HW.out, HH.out, HOW.out, hrd]; rfl)
        have HR := Lib.hid hrd; clear hrd
        go_wp2_with fail
        refine (enter_of B d x A3 c3 own n w3 w3 HD3.out HX3.out HF.out (by omega) HH.out).mono ?_
        rintro e w4 ⟨rfl, hd4, hc4⟩
        have HD4 := Lib.hid hd4; have HC34 := Lib.hid hc4
        have HC4 : Hid (Ch (three B) w w4) := Lib.hid ((HC3.out.mono (T := three B) (fun _ h => h.elim)).same hc4)
        clear hd4 hc4
        have HFE : Hid (Fine (d.enter x own) (n + 1)) := Lib.hid (HF.out.enter HH.out HR.out hz hol HOP.out)
        have HI0 : Hid (AL w3 w (w4.alloc (.cells #[.string x] 30)) B (n + 1) (d.enter x own) (.slice (some ⟨w4.heap.size, 0, none⟩) 1 1) [x] (d.add x ps) d.waits.length) := Lib.hid (by
          have hwl : (d.enter x own).waits.length ≤ d.waits.length := List.length_filter_le _ _
          have hm := HF.out.many
          exact ⟨HD4.out.above ((Ch.refl no w4).alloc _) (fun k h => h.elim) HD3.out.lt, HFE.out, own_one w4 x w3.heap.size HC34.out.size, HC4.out.alloc _, HA.out.symm, hwl, by simp only [List.length_singleton]; omega, by have := HC34.out.size; simp; omega⟩)
        obtain ⟨fin, hfin⟩ : ∃ fin, d.add x ps = fin := ⟨_, rfl⟩
        rw [hfin] at HI0
        have HFIN := Lib.hid hfin
        have HLT := Lib.hid HD3.out.lt; have HSZ3 := Lib.hid HC3.out.size
        clear hfin HFE HA HR HD4 HC4 HC34 HD3 HX3 HOP HOW HW HH HC3
        go_wp2_with fail
        go_step3
        go_wp2_with fail
        go_loopg [10] d.waits.length (fun k o wr => ∃ (d' : Gr) (out : List Nm), Hid (AL w3 w wr B (n + 1) d' o out fin k))
        case atStart => exact ⟨_, _, HI0⟩
        case round =>
          clear HI0
          obtain ⟨d', out, HI⟩ := hrel
          obtain ⟨A4, c4, hu10⟩ := own_shape HI.out.own
          subst hu10
          have hk1 := HI.out.dag.cell1
          go_wp2_with fail
          refine (waitS_of B d' (n + 1) _ HI.out.dag.to_v HI.out.fine (by omega)).mono ?_
          rintro e w5 ⟨v5, rfl, hown5, hc5⟩
          obtain ⟨A5, c5, rfl, hr5⟩ := El.Row.of_own hown5
          have hl5 := hr5.len
          have HX5 := Lib.hid hr5; have HC5 := Lib.hid hc5; clear hown5 hc5 hr5
          have HD5 := Lib.hid (HI.out.dag.above HC5.out (fun k h => h.elim) HLT.out)
          obtain ⟨S, hS⟩ : ∃ S, srt d'.wids = S := ⟨_, rfl⟩
          rw [hS] at HX5 hl5 ⊢
          have HS := Lib.hid hS; clear hS
          go_wp2_with fail
          go_loopw [10, 55] (fun oo i wz => ∃ k : Nat, k ≤ S.length ∧ i = .int .i64 k ∧ oo = .slice A4 out.length c4 ∧ Hid (NoneYet d' k) ∧ w5 = wz) (fun _ i _ => S.length - (intOf i).toNat)
          case atStart => exact ⟨0, by omega, rfl, rfl, Lib.hid (by simp [NoneYet]), rfl⟩
          case round =>
            obtain ⟨k, hk, rfl, rfl, HN, rfl⟩ := hrel
            by_cases hlt : k < S.length
            · obtain ⟨a, rfl, hca⟩ := HX5.out.flat_at k hlt
              have hk5 := HD5.out.cell1
              obtain ⟨u5, hlk5, ⟨A6, c6, rfl, hr6⟩⟩ := HD5.out.look_wt (P := Try.prog) Try.underlying49 Try.underlying30 zeroIds S[k] false
              simp only [Bool.false_eq_true, if_false] at hlk5
              have HNX : Hid (d'.ready (d'.wpar S[k]) = false → NoneYet d' (k + 1)) := Lib.hid (fun hr => HN.out.next' HS.out hlt hr)
              have HFO : Hid (d'.ready (d'.wpar S[k]) = true → d'.first = some S[k]) := Lib.hid (fun hr => HN.out.found' HS.out hlt hr)
              have HX6 := Lib.hid hr6; clear hr6 HN
              obtain ⟨y, hy⟩ : ∃ y, S[k] = y := ⟨_, rfl⟩
              rw [hy] at hca hlk5 HNX HFO HX6
              clear hy
              obtain ⟨q, hq⟩ : ∃ q, d'.wpar y = q := ⟨_, rfl⟩
              rw [hq] at hlk5 HNX HFO HX6
              have HQ := Lib.hid hq; clear hq
              go_wp2_with fail
              refine (ready_of B d' A6 c6 q w5 HD5.out.to_v (row_sub HD5.out.sub HX6.out)).mono ?_
              rintro e w' ⟨rfl, hww⟩
              subst hww
              cases hrd : d'.ready q with
              | false =>
                have HN := Lib.hid (HNX.out hrd)
                clear hrd HNX HFO
                go_wp2_with fail
                go_roundw
                case rel => exact ⟨k + 1, by omega, by go_num, rfl, HN, trivial⟩
                case measure => simp [intOf]; omega
              | true =>
                have hfo := HFO.out hrd
                have hfs := first_some HI.out.fine hfo
                have HFS : Hid (y ∈ d'.wids ∧ d'.has y = false ∧ d'.ready q = true ∧ y.size ≤ 1000 ∧ q.length ≤ 1000 ∧ ∀ p ∈ q, p.size ≤ 1000) := Lib.hid (by rw [HQ.out] at hfs; exact hfs)
                obtain ⟨m, hm⟩ : ∃ m, gk = m + 1 := ⟨gk - 1, by
                  have h1 := List.length_pos_of_mem hfs.1
                  simp only [Gr.wids, List.length_map] at h1
                  have := HI.out.le
                  omega⟩
                subst hm
                have HST : Hid (settleAll m (d'.enter y q) (out ++ [y]) = fin) := Lib.hid (by
                  have h1 := HI.out.eq
                  rw [settle_some hfo, HQ.out] at h1
                  exact h1)
                clear hrd HNX HFO hfo hfs
                go_wp2_with fail
                refine (enter_of B d' y A6 c6 q (n + 1) w3 w5 HD5.out HX6.out HI.out.fine (by omega) HFS.out.2.1).mono ?_
                rintro e w6 ⟨rfl, hd6, hc6⟩
                have HD6 := Lib.hid hd6
                have HC36 : Hid (w3.heap.size ≤ w6.heap.size) := Lib.hid (by have h1 := hc6.size; have h2 := HC5.out.size; have h3 := (own_ge HI.out.own); have h4 := HI.out.dag.sub; have h5 := HI.out.rsz; omega)
                have HC6 : Hid (Ch (three B) w w6) := Lib.hid ((HI.out.ch.then_ HC5.out).same hc6)
                have HO6 : Hid (OwnS w6 w3.heap.size (.slice A4 out.length c4) out) := Lib.hid (own_ch (own_ch HI.out.own HC5.out (fun _ _ => no_not _)) hc6 (fun j hj hs => by
                  have h1 := own_ge HI.out.own j hj
                  have h2 := HLT.out
                  rcases hs with h | h | h <;> omega))
                clear hd6 hc6
                have HR6 : Hid (El.str.Row (w6.alloc (.cells #[.string y] 30)) (some ⟨w6.heap.size, 0, none⟩) 1 [y]) := Lib.hid (by
                  obtain ⟨A8, c8, h8, hr8⟩ := El.Row.of_own (own_one w6 y w6.heap.size (Nat.le_refl _))
                  cases h8
                  exact hr8)
                have HFI6 : Hid (Fine (d'.enter y q) (n + 1) ∧ (d'.enter y q).waits.length < d'.waits.length) := Lib.hid (HI.out.fine.enterW HFS.out.2.1 HFS.out.1 HFS.out.2.2.1 HFS.out.2.2.2.1 HFS.out.2.2.2.2.1 HFS.out.2.2.2.2.2)
                have hol6 : out.length ≤ 1001 := by have := HI.out.len; omega
                obtain ⟨i0, hi, hz0, hz1, hz2⟩ := info_parts infoStr
                go_wp2_with (at_builtin; refine app_row (fun _ => rfl) rfl _ _ 27 rfl w3.heap.size 30 i0 _ 16 Try.underlying27 hi hz0 hz1 hz2 rfl (.slice A4 out.length c4) out.length _ rfl (own_ch HO6.out ((Ch.refl no w6).alloc _) (fun _ _ => no_not _)) (some ⟨w6.heap.size, 0, none⟩) 1 [y] rfl HR6.out (by simp; unfold maxLen; omega) (by simp; omega) (by have := HC36.out; simp; omega) ?_; intro v9 w9 hown9 hgrow9 _; obtain ⟨A9, c9, hv9⟩ := own_shape hown9; subst hv9; have HO9 := Lib.hid hown9; have HG9 := Lib.hid hgrow9; clear hown9 hgrow9)
                go_roundg m
                case rel =>
                  have hcg : Ch (fun k => w3.heap.size ≤ k) w6 w9 := ((Ch.refl _ w6).alloc _).same ((grown_ch HG9.out).mono (fun k h => own_ge HO6.out k h.symm))
                  have hc9 : Ch (three B) w w9 := Vw.Ch.grown_new (HC6.out.alloc _) HG9.out (fun k hk => by have := own_ge HO6.out k hk; have := HSZ3.out; omega)
                  refine ⟨_, _, Lib.hid ⟨HD6.out.above hcg (fun k h => h) HLT.out, HFI6.out.1, ?_, hc9, HST.out, ?_, ?_, ?_⟩⟩
                  · unfold OwnS
                    rw [List.length_append, List.map_append]
                    exact HO9.out
                  · have := HI.out.le
                    have := HFI6.out.2
                    omega
                  · have := HI.out.len
                    have := HFI6.out.2
                    simp only [List.length_append, List.length_singleton]
                    omega
                  · have := hcg.size; have := HC36.out; omega
                case measure => omega
            · have HFN : Hid (fin = (d', out)) := Lib.hid (by
                have h1 := HI.out.eq
                have h2 : d'.first = none := HN.out.all (by rw [HS.out]; omega)
                rw [settle_none h2] at h1
                exact h1.symm)
              have HX7 := Lib.hid (RowV.of_own (own_ch HI.out.own HC5.out (fun _ _ => no_not _)))
              go_wp2_with fail
              try rw [Exit.noGoto_ret]
              go_ret
              refine ⟨.slice A4 out.length c4, rfl, ?_, ?_, HI.out.ch.then_ HC5.out⟩
              · rw [HFIN.out, HFN.out]
                exact HX7.out
              · rw [HFIN.out, HFN.out]
                exact HD5.out.to_v
end Go.Proofs.Ytlmcbmgdhpoedaa.Di
