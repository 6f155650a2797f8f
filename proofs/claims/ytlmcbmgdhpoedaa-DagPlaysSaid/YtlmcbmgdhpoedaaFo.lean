/- The document's graph beside the program's: the statement DagPlays walked. -/
import Derived.Test.YtlmcbmgdhpoedaaFn
import Derived.StillTailTactics
namespace Go.Proofs.Ytlmcbmgdhpoedaa.Fo
open Go Go.RowKit Go.Proofs.Ytlmcbmgdhpoedaa.Aa Go.Proofs.Ytlmcbmgdhpoedaa.Vw Go.Proofs.Ytlmcbmgdhpoedaa.Mp Go.Proofs.Ytlmcbmgdhpoedaa.Da Go.Proofs.Ytlmcbmgdhpoedaa.Db Go.Proofs.Ytlmcbmgdhpoedaa.Dc Go.Proofs.Ytlmcbmgdhpoedaa.De Go.Proofs.Ytlmcbmgdhpoedaa.Di Go.Proofs.Ytlmcbmgdhpoedaa.Dk Go.Proofs.Ytlmcbmgdhpoedaa.Dl Go.Proofs.Ytlmcbmgdhpoedaa.Dr Go.Proofs.Ytlmcbmgdhpoedaa.Ds Go.Proofs.Ytlmcbmgdhpoedaa.Dt Go.Proofs.Ytlmcbmgdhpoedaa.Du Go.Proofs.Ytlmcbmgdhpoedaa.Ea Go.Proofs.Ytlmcbmgdhpoedaa.Fa Go.Proofs.Ytlmcbmgdhpoedaa.Fb Go.Proofs.Ytlmcbmgdhpoedaa.Fc Go.Proofs.Ytlmcbmgdhpoedaa.Fd Go.Proofs.Ytlmcbmgdhpoedaa.Fe Go.Proofs.Ytlmcbmgdhpoedaa.Ff Go.Proofs.Ytlmcbmgdhpoedaa.Fg Go.Proofs.Ytlmcbmgdhpoedaa.Fh Go.Proofs.Ytlmcbmgdhpoedaa.Fi Go.Proofs.Ytlmcbmgdhpoedaa.Fj Go.Proofs.Ytlmcbmgdhpoedaa.Fk Go.Proofs.Ytlmcbmgdhpoedaa.Fl Go.Proofs.Ytlmcbmgdhpoedaa.Fm Go.Proofs.Ytlmcbmgdhpoedaa.Fn
set_option linter.unusedVariables false
set_option linter.unusedSimpArgs false

section
variable {w w' : World} {S : Nat → Prop} {B R : Nat} {d : Gr} {L : List Nd}
theorem nd_sub {A : Option Addr} {c : Nat} (h : nd.Row w A c L) (hs : Sub w w') : nd.Row w' A c L := by
  refine ⟨h.le, h.max, h.none_, fun i x hx => ?_⟩
  obtain ⟨ad, cs, rfl, ⟨A2, c2, rfl, hr⟩, h3⟩ := h.get i x hx
  exact ⟨ad, _, rfl, ⟨A2, c2, rfl, row_sub hs hr⟩, fun j u hj => hs _ _ (h3 j u hj)⟩
theorem refV_maps (h : RefV w R L) (hS : MapsAt w S) (hc : Ch S w w') : RefV w' R L := by
  obtain ⟨A, c, hb, hr⟩ := h.ex
  have hn : ¬ S R := by
    intro hs
    obtain ⟨es, cc, hm⟩ := hS _ hs
    rw [hb] at hm
    cases hm
  exact ⟨A, c, hc.blk hb hn, nd_sub hr (sub_maps (fun _ _ h => h) hS hc)⟩
theorem ent_str {m : List (Nm × Value)} {l : List (Nm × List Nm)} (h : Ent w m l) (hs : Str w w') : Ent w' m l := by
  induction h with
  | nil => exact .nil
  | cons h1 _ ih => exact .cons ⟨h1.1, RowV.str h1.2 hs⟩ ih
theorem str_one (h : RefV w R L) (hc : Ch (Aa.one R) w w') : Str w w' := by
  obtain ⟨A, c, hb, _⟩ := h.ex
  refine Str.of_turn hc (fun k hk a s ha hcell => ?_)
  have e : k = R := hk
  subst e
  obtain ⟨ab, ao, asp⟩ := a
  simp only at ha
  subst ha
  unfold World.cell? at hcell
  rw [hb] at hcell
  cases asp with
  | some _ => simp at hcell
  | none =>
    cases ao with
    | zero => simp at hcell
    | succ n => simp at hcell
theorem dagV_one (h : DagV w B d) (hr : RefV w R L) (hc : Ch (Aa.one R) w w') : DagV w' B d := by
  have hs := str_one hr hc
  obtain ⟨A, c, hb, _⟩ := hr.ex
  have hm : ∀ k, (∃ es c, w.heap[k]? = some (.map es c)) → ¬ Aa.one R k := by
    rintro k ⟨es, cc, hk⟩ e
    have e' : k = R := e
    subst e'
    rw [hb] at hk
    cases hk
  obtain ⟨hx, ⟨m, h1, h2⟩, ⟨m2, h3, h4⟩, h5, h6⟩ := h
  have hn : ¬ Aa.one R (B + 3) := by
    intro e
    have e' : B + 3 = R := e
    rw [e', hb] at hx
    cases hx
  exact ⟨hc.blk hx hn, ⟨m, h1.ch hc (hm _ (mapV_blk h1)), ent_str h2 hs⟩, ⟨m2, h3.ch hc (hm _ (mapV_blk h3)), ent_str h4 hs⟩, h5.ch hc (hm _ (mapV_blk h5)), fun _ _ h => h⟩
/-- Both graphs lie there. -/
structure PL (w wr : World) (B R : Nat) (D : Gr) (L : List Nd) : Prop where
  dag : DagV wr B D
  ref : RefV wr R L
  ch : Ch no w wr
theorem PL.next {wr wz : World} (h : PL w wr B R d L) (hc : Ch no wr wz) : PL w wz B R d L := ⟨h.dag.ch hc, h.ref.ch hc, h.ch.then_ hc⟩
end
theorem ids_same (A B : Option Addr) (c d : Nat) (xs : List ByteArray) (w : World) (hx : El.str.Row w A c xs) (hy : El.str.Row w B d xs) :
    Calls Try.prog 18 #[.slice A xs.length c, .slice B xs.length d] w fun e w' => e = .returned (.bool true) ∧ Ch no w w' :=
  (ids_any A B c d xs xs w hx hy).mono fun e w' h => ⟨by rw [h.1, decide_eq_true rfl], h.2.ch no⟩
set_option maxRecDepth 100000 in
set_option maxHeartbeats 16000000 in
theorem plays_of (A : Option Addr) (c : Nat) (l : List Nd) (a b : Nm) (w : World) (h : nd.Row w A c l) :
    Calls Try.prog 5 #[.slice A l.length c, .string a, .string b] w fun e w' => e = .returned (.bool true) ∧ Ch no w w' := by
  have hlx := h.len
  have HX := Lib.hid h; clear h
  go_enter Try.func5, Try.ntmps5
  go_wp2_with fail
  refine (awake_of w).mono ?_
  rintro e w1 ⟨rfl, hc1⟩
  have HC1 := Lib.hid hc1; clear hc1
  go_wp2_with fail
  have hn := few_of A c l w1 (HX.out.ch HC1.out)
  obtain ⟨f1, hf1⟩ : ∃ f, few l = f := ⟨_, rfl⟩
  rw [hf1] at hn
  refine hn.mono ?_
  rintro e w' ⟨rfl, hw⟩
  subst hw
  have HF1 := Lib.hid hf1
  clear hn hf1
  cases f1 with
  | false =>
    go_wp2_with fail
    go_ret
    exact ⟨rfl, HC1.out⟩
  | true =>
    by_cases ha : a.size ≤ 40
    rotate_left
    · have ha1 : (40 : Int) < (a.size : Int) := by omega
      go_wp2_with fail
      go_ret
      exact ⟨rfl, HC1.out⟩
    by_cases hb : b.size ≤ 40
    rotate_left
    · have ha1 : ¬ (40 : Int) < (a.size : Int) := by omega
      have hb1 : (40 : Int) < (b.size : Int) := by omega
      go_wp2_with fail
      go_ret
      exact ⟨rfl, HC1.out⟩
    have ha1 : ¬ (40 : Int) < (a.size : Int) := by omega
    have hb1 : ¬ (40 : Int) < (b.size : Int) := by omega
    go_wp2_with fail
    refine (new_of w1).mono ?_
    rintro e w2 ⟨rfl, hd, hc⟩
    have HBW : Hid (w.heap.size ≤ w1.heap.size) := Lib.hid HC1.out.size
    have HRW : Hid (w.heap.size ≤ w2.heap.size) := Lib.hid (HC1.out.then_ hc).size
    have HP0 : Hid (PL w (w2.alloc (.cells #[.slice none 0 0] 40)) w1.heap.size w2.heap.size (graph (l.take 0)) (rgraph (l.take 0))) := Lib.hid ⟨hd.ch ((Ch.refl no w2).alloc _), ⟨none, 0, bNew _ _, El.Row.nil _ _⟩, (HC1.out.then_ hc).alloc _⟩
    obtain ⟨B, hB⟩ : ∃ B, w1.heap.size = B := ⟨_, rfl⟩
    rw [hB] at HP0 HBW ⊢
    clear hd hc hB ha1 hb1 HC1
    go_wp2_with fail
    obtain ⟨R, hR⟩ : ∃ R, w2.heap.size = R := ⟨_, rfl⟩
    rw [hR] at HP0 HRW ⊢
    generalize w2.alloc (.cells #[.slice none 0 0] 40) = w3 at HP0 ⊢
    clear hR
    go_loopw [11] (fun i wr => ∃ k : Nat, k ≤ l.length ∧ i = .int .i64 k ∧ Hid (PL w wr B R (graph (l.take k)) (rgraph (l.take k)))) (fun i _ => l.length - (intOf i).toNat)
    case atStart => exact ⟨0, by omega, rfl, HP0⟩
    case round =>
      clear HP0
      obtain ⟨k, hk, rfl, HI⟩ := hrel
      by_cases hlt : k < l.length
      · have HRW2 := Lib.hid (HX.out.ch HI.out.ch)
        obtain ⟨ad, A2, cc2, rfl, p0, p1, hr2⟩ := nd_at HRW2.out k hlt
        have HR2 := Lib.hid hr2
        have HOK := Lib.hid (okN_all HF1.out k hlt)
        have HGN := Lib.hid (graph_next l k hlt)
        have HRN := Lib.hid (rgraph_next l k hlt)
        have HFI := Lib.hid (graph_fine HF1.out k (by omega))
        have HFI2 := Lib.hid (graph_fine HF1.out (k + 1) (by omega))
        have HSM := Lib.hid (rgraph_sm HF1.out k (by omega)).1
        have HSM2 := Lib.hid (rgraph_sm HF1.out (k + 1) (by omega)).1
        have HSI := Lib.hid (Sim.graph l k (by omega))
        have HSI2 := Lib.hid (Sim.graph l (k + 1) (by omega))
        have hkl : k + 1 ≤ 14 := by have := few_len HF1.out; omega
        obtain ⟨x, hx⟩ : ∃ x, l[k] = x := ⟨_, rfl⟩
        rw [hx] at p0 p1 HR2 HGN HRN HOK
        have HXK := Lib.hid hx
        clear hx hr2
        obtain ⟨d0, hd0⟩ : ∃ d0, graph (l.take k) = d0 := ⟨_, rfl⟩
        obtain ⟨d2, hd2⟩ : ∃ d2, graph (l.take (k + 1)) = d2 := ⟨_, rfl⟩
        obtain ⟨L0, hL0⟩ : ∃ L0, rgraph (l.take k) = L0 := ⟨_, rfl⟩
        obtain ⟨L2, hL2⟩ : ∃ L2, rgraph (l.take (k + 1)) = L2 := ⟨_, rfl⟩
        rw [hd0] at HGN HFI HSI HI
        rw [hL0] at HRN HSM HSI HI
        rw [hd2] at HGN HFI2 HSI2
        rw [hL2] at HRN HSM2 HSI2
        have HEO : Hid ((d0.add x.id x.par).2 = (radd L0 x.id x.par).2) := Lib.hid (HSI.out.1.add HSI.out.2 x.id x.par).1
        obtain ⟨xi, xp, xn⟩ := x
        simp only at p0 p1 HR2 HGN HRN HOK HEO
        obtain ⟨OO, hOO⟩ : ∃ OO, (radd L0 xi xp).2 = OO := ⟨_, rfl⟩
        rw [hOO] at HEO
        have HOO := Lib.hid hOO
        clear hOO
        have HDD : Hid (graph (l.take (k + 1)) = d2) := Lib.hid hd2
        have HLL : Hid (rgraph (l.take (k + 1)) = L2) := Lib.hid hL2
        clear hd0 hd2 hL0 hL2 HSI
        go_upto_region 12 with (fail)
        obtain ⟨wd12, hwd12⟩ : ∃ wd, ({ wr with drawn := wr.drawn + 1 } : World) = wd := ⟨_, rfl⟩
        have HD12 : Hid (Ch no wr wd12) := Lib.hid (by rw [← hwd12]; exact (Ch.refl no wr).drew)
        have q0 := cell_ch HD12.out p0
        have q1 := cell_ch HD12.out p1
        refine wp_region_still_tail 11 (by kernel_rfl) (by kernel_rfl) ?_
        rw [hwd12]
        simp only [List.take_succ_cons, List.take_zero, List.drop_succ_cons, List.drop_zero]
        clear hwd12 p0 p1
        repeat still_step
        refine wpStill_nil ?_
        clear q0 q1
        go_wp2_with fail
        have ha12 := add_of B d0 k xi (.slice A2 xp.length cc2) xp wd12 (HI.out.dag.ch HD12.out) ⟨A2, cc2, rfl, HR2.out.ch HD12.out⟩ HFI.out (by omega) (by have := HOK.out.1; omega) (by have := HOK.out.2.1; omega) (fun p hp => by have := HOK.out.2.2 p hp; omega)
        rw [HEO.out, ← HGN.out] at ha12
        refine ha12.mono ?_
        rintro e w4 ⟨v4, rfl, hv4, hd4, hc4⟩
        obtain ⟨A4, c4, rfl, hr4⟩ := hv4
        have HR4 := Lib.hid hr4
        have HMP := (HI.out.dag.ch HD12.out).maps
        have HC4 : Hid (Ch no w w4) := Lib.hid ((HI.out.ch.then_ HD12.out).trans hc4 (fun i hi h => by have := HBW.out; rcases h with h | h | h <;> omega))
        have HD4 := Lib.hid hd4
        have HF4 : Hid (RefV w4 R L0) := Lib.hid (refV_maps (HI.out.ref.ch HD12.out) HMP hc4)
        clear ha12 hd4 hc4 hr4 HI HD12 HR2 HRW2 HMP HFI
        obtain ⟨ad', A2', cc2', had, p0', p1', hr2⟩ := nd_at (HX.out.ch HC4.out) k hlt
        cases had
        have p0 := p0'
        have p1 := p1'
        rw [HXK.out] at p0 p1 hr2
        simp only at p0 p1 hr2
        have HR2 := Lib.hid hr2
        clear p0' p1' hr2
        go_upto_region 13 with (fail)
        obtain ⟨wd13, hwd13⟩ : ∃ wd, ({ w4 with drawn := w4.drawn + 1 } : World) = wd := ⟨_, rfl⟩
        have HD13 : Hid (Ch no w4 wd13) := Lib.hid (by rw [← hwd13]; exact (Ch.refl no w4).drew)
        have q0 := cell_ch HD13.out p0
        have q1 := cell_ch HD13.out p1
        refine wp_region_still_tail 11 (by kernel_rfl) (by kernel_rfl) ?_
        rw [hwd13]
        simp only [List.take_succ_cons, List.take_zero, List.drop_succ_cons, List.drop_zero]
        clear hwd13 p0 p1
        repeat still_step
        refine wpStill_nil ?_
        clear q0 q1
        go_wp2_with fail
        have ha13 := radd_of R L0 xi (.slice A2' xp.length cc2') xp wd13 (HF4.out.ch HD13.out) ⟨A2', cc2', rfl, HR2.out.ch HD13.out⟩ (by have := HSM.out.len; omega) (fun n hn => by have := HSM.out.idz n hn; omega) (by have := HOK.out.1; omega) (by have := HOK.out.2.1; omega) (fun p hp => by have := HOK.out.2.2 p hp; omega)
        rw [HOO.out, ← HRN.out] at ha13
        refine ha13.mono ?_
        rintro e w5 ⟨v5, rfl, ho5, hf5, hc5⟩
        obtain ⟨A5, c5, rfl⟩ := own_shape ho5
        have HR5 := Lib.hid (row_of_own ho5)
        have hst := str_one (HF4.out.ch HD13.out) hc5
        have HR4 := Lib.hid (row_str (HR4.out.ch HD13.out) hst)
        have HP5 : Hid (PL w w5 B R d2 L2) := Lib.hid ⟨dagV_one (HD4.out.ch HD13.out) (HF4.out.ch HD13.out) hc5, hf5, (HC4.out.then_ HD13.out).trans hc5 (fun i hi h => by have := HRW.out; have h' : i = R := h; omega)⟩
        have E1 : Hid (rall L2 true = d2.allIds) := Lib.hid (HSI2.out.1.all HSI2.out.2)
        have E2 : Hid (rall L2 false = d2.waiting) := Lib.hid (HSI2.out.1.waiting HSI2.out.2)
        have E3 : Hid (rlacks L2 = d2.lacks) := Lib.hid (sim_lacks HSI2.out.1 HSI2.out.2)
        have E4 : Hid (d2.ins.length = d2.allIds.length) := Lib.hid (by rw [← E1.out]; exact (sim_many_in HSI2.out.1 HSI2.out.2).symm)
        obtain ⟨I1, hI1⟩ : ∃ I1, d2.allIds = I1 := ⟨_, rfl⟩
        obtain ⟨I2, hI2⟩ : ∃ I2, d2.waiting = I2 := ⟨_, rfl⟩
        obtain ⟨I3, hI3⟩ : ∃ I3, d2.lacks = I3 := ⟨_, rfl⟩
        rw [hI1] at E1 E4
        rw [hI2] at E2
        rw [hI3] at E3
        have G1 := Lib.hid hI1; have G2 := Lib.hid hI2; have G3 := Lib.hid hI3
        have hll : L2.length ≤ 1000 := by have := HSM2.out.len; omega
        clear ha13 ho5 hf5 hc5 hst HF4 HD4 HC4 HD13 HR2 HSI2 hI1 hI2 hI3 HGN HRN HEO HOO HSM HOK
        go_wp2_with fail
        refine (ids_same A4 A5 c4 c5 OO w5 HR4.out HR5.out).mono ?_
        rintro e w6 ⟨rfl, hc6⟩
        have HP6 := Lib.hid (HP5.out.next hc6)
        clear hc6 HP5 HR4 HR5
        go_wp2_with fail
        have h7 := ids_of B d2 (k + 1) w6 HP6.out.dag HFI2.out (by omega)
        rw [G1.out] at h7
        refine h7.mono ?_
        rintro e w7 ⟨v7, rfl, ho7, hc7⟩
        obtain ⟨A7, c7, rfl⟩ := own_shape ho7
        have HR7 := Lib.hid (row_of_own ho7); have HP7 := Lib.hid (HP6.out.next hc7)
        clear ho7 hc7 h7 HP6
        go_wp2_with fail
        have h8 := rall_of R L2 true w7 HP7.out.ref hll
        rw [E1.out] at h8
        refine h8.mono ?_
        rintro e w8 ⟨v8, rfl, ho8, hc8⟩
        obtain ⟨A8, c8, rfl⟩ := own_shape ho8
        have HR8 := Lib.hid (row_of_own ho8); have HP8 := Lib.hid (HP7.out.next hc8)
        have HR7 := Lib.hid (HR7.out.ch hc8)
        clear ho8 hc8 h8 HP7
        go_wp2_with fail
        refine (ids_same A7 A8 c7 c8 I1 w8 HR7.out HR8.out).mono ?_
        rintro e w9 ⟨rfl, hc9⟩
        have HP9 := Lib.hid (HP8.out.next hc9)
        clear hc9 HP8 HR7 HR8
        go_wp2_with fail
        have h10 := waiting_of B d2 (k + 1) w9 HP9.out.dag HFI2.out (by omega)
        rw [G2.out] at h10
        refine h10.mono ?_
        rintro e w10 ⟨v10, rfl, ho10, hc10⟩
        obtain ⟨A10, c10, rfl⟩ := own_shape ho10
        have HR10 := Lib.hid (row_of_own ho10); have HP10 := Lib.hid (HP9.out.next hc10)
        clear ho10 hc10 h10 HP9
        go_wp2_with fail
        have h11 := rall_of R L2 false w10 HP10.out.ref hll
        rw [E2.out] at h11
        refine h11.mono ?_
        rintro e w11 ⟨v11, rfl, ho11, hc11⟩
        obtain ⟨A11, c11, rfl⟩ := own_shape ho11
        have HR11 := Lib.hid (row_of_own ho11); have HP11 := Lib.hid (HP10.out.next hc11)
        have HR10 := Lib.hid (HR10.out.ch hc11)
        clear ho11 hc11 h11 HP10
        go_wp2_with fail
        refine (ids_same A10 A11 c10 c11 I2 w11 HR10.out HR11.out).mono ?_
        rintro e w12 ⟨rfl, hc12⟩
        have HP12 := Lib.hid (HP11.out.next hc12)
        clear hc12 HP11 HR10 HR11
        go_wp2_with fail
        have h13 := lacks_of B d2 (k + 1) w12 HP12.out.dag HFI2.out (by omega)
        rw [G3.out] at h13
        refine h13.mono ?_
        rintro e w13 ⟨v13, rfl, ho13, hc13⟩
        obtain ⟨A13, c13, rfl⟩ := own_shape ho13
        have HR13 := Lib.hid (row_of_own ho13); have HP13 := Lib.hid (HP12.out.next hc13)
        clear ho13 hc13 h13 HP12
        go_wp2_with fail
        have h14 := rlacks_of R L2 w13 HP13.out.ref HSM2.out
        rw [E3.out] at h14
        refine h14.mono ?_
        rintro e w14 ⟨v14, rfl, ho14, hc14⟩
        obtain ⟨A14, c14, rfl⟩ := own_shape ho14
        have HR14 := Lib.hid (row_of_own ho14); have HP14 := Lib.hid (HP13.out.next hc14)
        have HR13 := Lib.hid (HR13.out.ch hc14)
        clear ho14 hc14 h14 HP13
        go_wp2_with fail
        refine (ids_same A13 A14 c13 c14 I3 w14 HR13.out HR14.out).mono ?_
        rintro e w15 ⟨rfl, hc15⟩
        have HP15 := Lib.hid (HP14.out.next hc15)
        clear hc15 HP14 HR13 HR14
        go_wp2_with fail
        have h16 := many_of B d2 w15 HP15.out.dag
        rw [E4.out] at h16
        refine h16.mono ?_
        rintro e w16 ⟨rfl, hw16⟩
        subst hw16
        clear h16
        go_wp2_with fail
        have h16 := rall_of R L2 true w15 HP15.out.ref hll
        rw [E1.out] at h16
        refine h16.mono ?_
        rintro e w16 ⟨v16, rfl, ho16, hc16⟩
        obtain ⟨A16, c16, rfl⟩ := own_shape ho16
        have HR16 := Lib.hid (row_of_own ho16); have HP16 := Lib.hid (HP15.out.next hc16)
        clear ho16 hc16 h16 HP15
        go_wp2_with fail
        go_roundw
        case rel => exact ⟨k + 1, by omega, by go_num, by rw [HDD.out, HLL.out]; exact HP16⟩
        case measure => simp [intOf]; omega
      · obtain rfl : k = l.length := by omega
        have HFI := Lib.hid (graph_fine HF1.out l.length (Nat.le_refl _))
        have HWF := Lib.hid (graph_wf l l.length)
        have HSM := Lib.hid (rgraph_sm HF1.out l.length (Nat.le_refl _)).1
        have HSI := Lib.hid (Sim.graph l l.length (Nat.le_refl _))
        have hN : l.length ≤ 14 := few_len HF1.out
        obtain ⟨D, hD⟩ : ∃ D, graph (l.take l.length) = D := ⟨_, rfl⟩
        obtain ⟨LL, hLL⟩ : ∃ LL, rgraph (l.take l.length) = LL := ⟨_, rfl⟩
        rw [hD] at HFI HWF HSI HI
        rw [hLL] at HSM HSI HI
        clear hD hLL
        have hll : LL.length ≤ 1000 := by have := HSM.out.len; omega
        have EH : Hid (∀ x, rhas LL x = D.has x) := Lib.hid HSI.out.1.has
        have EV : Hid (∀ x, rlevel LL x = D.level x) := Lib.hid (sim_level HSI.out.1 HSI.out.2 HFI.out HWF.out (by omega))
        have EP : Hid (∀ x, rpar LL x = D.parents x) := Lib.hid HSI.out.1.par
        have ED : Hid (rheads LL = D.heads) := Lib.hid (sim_heads HSI.out.1 HSI.out.2 HFI.out)
        have EA : Hid (rabove LL a b = aboveB D a b) := Lib.hid (sim_above HSI.out.1 HSI.out.2 HFI.out HWF.out a b)
        have BDD : Hid (Bd LL (glev D LL)) := Lib.hid (sim_bd HSI.out.1 HFI.out HWF.out (by omega))
        clear HSI HWF
        obtain ⟨w20, hw20⟩ : ∃ w20, wr = w20 := ⟨_, rfl⟩
        rw [hw20] at HI ⊢
        clear hw20
        go_wp2_with fail
        go_loopw [14] (fun i wr => ∃ k : Nat, k ≤ l.length ∧ i = .int .i64 k ∧ Hid (PL w wr B R D LL)) (fun i _ => l.length - (intOf i).toNat)
        case atStart => exact ⟨0, by omega, rfl, HI⟩
        case round =>
          clear HI
          obtain ⟨k, hk, rfl, HI⟩ := hrel
          obtain ⟨w30, hw30⟩ : ∃ w30, wr = w30 := ⟨_, rfl⟩
          rw [hw30] at HI ⊢
          clear hw30
          have HP30 := HI
          clear HI
          by_cases hlt : k < l.length
          · obtain ⟨ad, A2, cc2, rfl, p0, _, _⟩ := nd_at (HX.out.ch HP30.out.ch) k hlt
            obtain ⟨y, hy⟩ : ∃ y, l[k].id = y := ⟨_, rfl⟩
            rw [hy] at p0
            clear hy
            have H1 := Lib.hid (EH.out y); have V1 := Lib.hid (EV.out y); have P1 := Lib.hid (EP.out y)
            obtain ⟨hb1, hh1⟩ : ∃ hb1, D.has y = hb1 := ⟨_, rfl⟩
            obtain ⟨lv1, hv1⟩ : ∃ lv1, D.level y = lv1 := ⟨_, rfl⟩
            obtain ⟨PP, hp1⟩ : ∃ PP, D.parents y = PP := ⟨_, rfl⟩
            rw [hh1] at H1
            rw [hv1] at V1
            rw [hp1] at P1
            have H2 := Lib.hid hh1; have V2 := Lib.hid hv1; have P2 := Lib.hid hp1
            clear hh1 hv1 hp1
            go_wp2_with fail
            have h31 := has_of B D y w30 HP30.out.dag
            rw [H2.out] at h31
            refine h31.mono ?_
            rintro e w31 ⟨rfl, hw31⟩
            subst hw31
            clear h31
            go_wp2_with fail
            have h31 := rhas_of R LL y w30 HP30.out.ref
            rw [H1.out] at h31
            refine h31.mono ?_
            rintro e w31 ⟨rfl, hw31⟩
            subst hw31
            clear h31
            go_wp2_with fail
            have h31 := level_of B D y w30 HP30.out.dag
            rw [V2.out] at h31
            refine h31.mono ?_
            rintro e w31 ⟨rfl, hw31⟩
            subst hw31
            clear h31
            go_wp2_with fail
            have h31 := rlevel_of R LL y (glev D LL) w30 HP30.out.ref BDD.out hll
            rw [V1.out] at h31
            refine h31.mono ?_
            rintro e w31 ⟨rfl, hc31⟩
            have HP31 := Lib.hid (HP30.out.next hc31)
            clear hc31 h31 HP30
            go_wp2_with fail
            have h32 := parents_of B D l.length y w31 HP31.out.dag HFI.out (by omega)
            rw [P2.out] at h32
            refine h32.mono ?_
            rintro e w32 ⟨v32, rfl, ho32, hc32⟩
            obtain ⟨A32, c32, rfl⟩ := own_shape ho32
            have HR32 := Lib.hid (row_of_own ho32); have HP32 := Lib.hid (HP31.out.next hc32)
            clear ho32 hc32 h32 HP31
            go_wp2_with fail
            have h33 := rpar_of R LL y w32 HP32.out.ref
            rw [P1.out] at h33
            refine h33.mono ?_
            rintro e w33 ⟨v33, rfl, ho33, hc33⟩
            obtain ⟨A33, c33, rfl, hr33⟩ := ho33
            have HR33 := Lib.hid hr33; have HP33 := Lib.hid (HP32.out.next hc33)
            have HR32 := Lib.hid (HR32.out.ch hc33)
            clear hc33 h33 hr33 HP32
            go_wp2_with fail
            refine (ids_same A32 A33 c32 c33 PP w33 HR32.out HR33.out).mono ?_
            rintro e w34 ⟨rfl, hc34⟩
            have HP34 := Lib.hid (HP33.out.next hc34)
            clear hc34 HP33 HR32 HR33
            go_wp2_with fail
            go_roundw
            case rel => exact ⟨k + 1, by omega, by go_num, HP34⟩
            case measure => simp [intOf]; omega
          · obtain rfl : k = l.length := by omega
            have HA1 := Lib.hid (EH.out a); have VB1 := Lib.hid (EV.out b)
            obtain ⟨hb1, hh1⟩ : ∃ hb1, D.has a = hb1 := ⟨_, rfl⟩
            obtain ⟨lv1, hv1⟩ : ∃ lv1, D.level b = lv1 := ⟨_, rfl⟩
            obtain ⟨HH, hp1⟩ : ∃ HH, D.heads = HH := ⟨_, rfl⟩
            obtain ⟨q, hq⟩ : ∃ q, aboveB D a b = q := ⟨_, rfl⟩
            rw [hh1] at HA1
            rw [hv1] at VB1
            rw [hp1] at ED
            rw [hq] at EA
            have HA2 := Lib.hid hh1; have VB2 := Lib.hid hv1; have ED2 := Lib.hid hp1; have HQ := Lib.hid hq
            clear hh1 hv1 hp1 hq
            go_wp2_with fail
            have h31 := heads_of B D l.length w30 HP30.out.dag HFI.out (by omega)
            rw [ED2.out] at h31
            refine h31.mono ?_
            rintro e w31 ⟨v31, rfl, ho31, hc31⟩
            obtain ⟨A31, c31, rfl⟩ := own_shape ho31
            have HR31 := Lib.hid (row_of_own ho31); have HP31 := Lib.hid (HP30.out.next hc31)
            clear ho31 hc31 h31 HP30
            go_wp2_with fail
            have h32 := rheads_of R LL w31 HP31.out.ref hll
            rw [ED.out] at h32
            refine h32.mono ?_
            rintro e w32 ⟨v32, rfl, ho32, hc32⟩
            obtain ⟨A32, c32, rfl⟩ := own_shape ho32
            have HR32 := Lib.hid (row_of_own ho32); have HP32 := Lib.hid (HP31.out.next hc32)
            have HR31 := Lib.hid (HR31.out.ch hc32)
            clear ho32 hc32 h32 HP31
            go_wp2_with fail
            refine (ids_same A31 A32 c31 c32 HH w32 HR31.out HR32.out).mono ?_
            rintro e w33 ⟨rfl, hc33⟩
            have HP33 := Lib.hid (HP32.out.next hc33)
            clear hc33 HP32 HR31 HR32
            go_wp2_with fail
            refine (above_of B D a b w33 HP33.out.dag).mono ?_
            rintro e w34 ⟨r, rfl, hr, hc34⟩
            obtain rfl : r = q := by rw [Bool.eq_iff_iff, hr, ← HQ.out, aboveB_iff]
            have HP34 := Lib.hid (HP33.out.next hc34)
            clear hr hc34 HP33
            go_wp2_with fail
            have h35 := rabove_of R LL a b w34 HP34.out.ref HSM.out hb
            rw [EA.out] at h35
            refine h35.mono ?_
            rintro e w35 ⟨rfl, hc35⟩
            have HP35 := Lib.hid (HP34.out.next hc35)
            clear hc35 h35 HP34
            go_wp2_with fail
            have h36 := has_of B D a w35 HP35.out.dag
            rw [HA2.out] at h36
            refine h36.mono ?_
            rintro e w36 ⟨rfl, hw36⟩
            subst hw36
            clear h36
            go_wp2_with fail
            have h36 := rhas_of R LL a w35 HP35.out.ref
            rw [HA1.out] at h36
            refine h36.mono ?_
            rintro e w36 ⟨rfl, hw36⟩
            subst hw36
            clear h36
            go_wp2_with fail
            have h36 := level_of B D b w35 HP35.out.dag
            rw [VB2.out] at h36
            refine h36.mono ?_
            rintro e w36 ⟨rfl, hw36⟩
            subst hw36
            clear h36
            go_wp2_with fail
            have h36 := rlevel_of R LL b (glev D LL) w35 HP35.out.ref BDD.out hll
            rw [VB1.out] at h36
            refine h36.mono ?_
            rintro e w36 ⟨rfl, hc36⟩
            have HP36 := Lib.hid (HP35.out.next hc36)
            clear hc36 h36 HP35
            go_wp2_with fail
            go_ret
            exact ⟨by first | rfl | simp, HP36.out.ch⟩
end Go.Proofs.Ytlmcbmgdhpoedaa.Fo
