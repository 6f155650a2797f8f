/- Who is in, or waits, is added once. -/
import Derived.Test.YtlmcbmgdhpoedaaDu
namespace Go.Proofs.Ytlmcbmgdhpoedaa.Dv
open Go Go.RowKit Go.Proofs.Ytlmcbmgdhpoedaa.Aa Go.Proofs.Ytlmcbmgdhpoedaa.Vw Go.Proofs.Ytlmcbmgdhpoedaa.Da Go.Proofs.Ytlmcbmgdhpoedaa.Db Go.Proofs.Ytlmcbmgdhpoedaa.Dc Go.Proofs.Ytlmcbmgdhpoedaa.De Go.Proofs.Ytlmcbmgdhpoedaa.Di Go.Proofs.Ytlmcbmgdhpoedaa.Dk Go.Proofs.Ytlmcbmgdhpoedaa.Dl Go.Proofs.Ytlmcbmgdhpoedaa.Dr Go.Proofs.Ytlmcbmgdhpoedaa.Ds Go.Proofs.Ytlmcbmgdhpoedaa.Dt Go.Proofs.Ytlmcbmgdhpoedaa.Du
set_option linter.unusedVariables false
set_option linter.unusedSimpArgs false

theorem known_iff {d : Gr} {y : Nm} : d.known y = true ↔ (y ∈ d.wids ∨ y ∈ d.ids) := by
  unfold Gr.known Gr.has Gr.hasW
  simp only [Bool.or_eq_true, decide_eq_true_eq]
theorem known_enter {d : Gr} {x y : Nm} {ps : List Nm} (h : d.known y = true ∨ y = x) : (d.enter x ps).known y = true := by
  rw [known_iff] at h ⊢
  by_cases hy : y = x
  · right
    subst hy
    show y ∈ (d.ins ++ [(y, ps, d.top ps)]).map (·.1)
    simp
  · rcases h with (h | h) | h
    · left
      show y ∈ (d.waits.filter (fun p => decide (p.1 ≠ x))).map (·.1)
      rw [filter_wids, List.mem_filter]
      exact ⟨h, by simpa using hy⟩
    · right
      show y ∈ (d.ins ++ [(x, ps, d.top ps)]).map (·.1)
      rw [List.map_append, List.mem_append]
      exact .inl h
    · exact absurd h hy
theorem known_settle (m : Nat) : ∀ (d : Gr) (out : List Nm) (y : Nm), d.known y = true → (settleAll m d out).1.known y = true := by
  induction m with
  | zero => exact fun d out y h => h
  | succ m ih =>
    intro d out y h
    unfold settleAll
    split
    · exact h
    · exact ih _ _ _ (known_enter (.inl h))
theorem known_add {d : Gr} {x y : Nm} {ps : List Nm} (h : d.known y = true ∨ y = x) : (d.add x ps).1.known y = true := by
  unfold Gr.add
  split
  · rename_i hk
    rcases h with h | h
    · exact h
    · rw [h]; exact hk
  · split
    · exact known_settle _ _ _ _ (known_enter h)
    · rw [known_iff]
      rcases h with h | h
      · rcases known_iff.1 h with h | h
        · left
          show y ∈ (d.waits ++ [(x, uniq (srt ps))]).map (·.1)
          rw [List.map_append, List.mem_append]
          exact .inl h
        · exact .inr h
      · left
        show y ∈ (d.waits ++ [(x, uniq (srt ps))]).map (·.1)
        simp [h]
theorem add_known {d : Gr} {x : Nm} {ps : List Nm} (h : d.known x = true) : d.add x ps = (d, []) := by
  unfold Gr.add
  rw [h]; rfl
theorem known_graph (l : List Nd) : ∀ (n k : Nat) (hk : k < l.length), k < n → (graph (l.take n)).known l[k].id = true := by
  intro n
  induction n with
  | zero => intro k hk h; omega
  | succ n ih =>
    intro k hk h
    by_cases hn : n < l.length
    · rw [graph_next l n hn]
      by_cases hkn : k = n
      · subst hkn; exact known_add (.inr rfl)
      · exact known_add (.inl (ih k hk (by omega)))
    · rw [List.take_of_length_le (by omega)]
      have := ih k hk (by omega)
      rwa [List.take_of_length_le (by omega)] at this
/-- A row of one node in a new block. -/
theorem row_node (w : World) (x : Nd) (A : Option Addr) (c : Nat) (h : El.str.Row w A c x.par) : nd.Row (w.alloc (.cells #[.string x.id, .slice A x.par.length c, .bool x.inn] 42)) (some ⟨w.heap.size, 0, none⟩) 1 [x] := by
  refine ⟨by simp, by unfold maxLen; omega, fun h => (by cases h), fun i y hy => ?_⟩
  have hi : i = 0 := by
    have := (List.getElem?_eq_some_iff.1 hy).1
    simp at this; omega
  subst hi
  have e : x = y := by simpa using hy
  subst e
  refine ⟨_, _, rfl, ⟨A, c, rfl, h.ch ((Ch.refl _ _).alloc _)⟩, fun j v hj => ?_⟩
  have e2 : (Addr.add ⟨w.heap.size, 0, none⟩ (0 * nd.sz + j)) = ⟨w.heap.size, j, none⟩ := by
    rw [Nat.zero_mul, Nat.zero_add]; unfold Addr.add; split <;> simp_all
  rw [e2, bCell (bNew w _)]
  simpa using hj
theorem few_one {ps : List Nm} (h : few [⟨ByteArray.empty, ps, false⟩] = true) : ps.length ≤ 6 ∧ ∀ p ∈ ps, p.size ≤ 40 := by
  have h2 := okN_all h 0 (by simp)
  exact ⟨h2.2.1, h2.2.2⟩
set_option maxRecDepth 100000 in
set_option maxHeartbeats 4000000 in
theorem twice_of (A : Option Addr) (c : Nat) (l : List Nd) (m : Nat) (A2 : Option Addr) (c2 : Nat) (ps : List Nm) (w : World) (h : nd.Row w A c l) (hm : m ≤ 255) (h2 : El.str.Row w A2 c2 ps) :
    Calls Try.prog 7 #[.slice A l.length c, .int .u8 m, .slice A2 ps.length c2] w fun e w' => e = .returned (.bool true) ∧ Ch no w w' := by
  have hlx := h.len
  have HX := Lib.hid h; have HP := Lib.hid h2; clear h h2
  go_enter Try.func7, Try.ntmps7
  go_wp2_with fail
  refine (awake_of w).mono ?_
  rintro e w1 ⟨rfl, hc1⟩
  have HC1 := Lib.hid hc1; clear hc1
  go_wp2_with fail
  refine (few_of A c l w1 (HX.out.ch HC1.out)).mono ?_
  rintro e w' ⟨rfl, hw⟩
  subst hw
  have hn := few_of (some ⟨w1.heap.size, 0, none⟩) 1 [⟨ByteArray.empty, ps, false⟩] (w1.alloc (.cells #[.string ByteArray.empty, .slice A2 ps.length c2, .bool false] 42)) (row_node w1 ⟨ByteArray.empty, ps, false⟩ A2 c2 (HP.out.ch HC1.out))
  obtain ⟨f1, hf1⟩ : ∃ f, few l = f := ⟨_, rfl⟩
  obtain ⟨f2, hf2⟩ : ∃ f, few [⟨ByteArray.empty, ps, false⟩] = f := ⟨_, rfl⟩
  rw [hf2] at hn
  rw [hf1]
  go_wp2_with fail
  refine hn.mono ?_
  rintro e w2 ⟨rfl, hw⟩
  have hc2 : Ch no w w2 := by rw [← hw]; exact HC1.out.alloc _
  have HC2 := Lib.hid hc2; have HF1 := Lib.hid hf1; have HF2 := Lib.hid hf2
  clear hw hn hc2 HC1 hf1 hf2
  cases f1 with
  | false =>
    go_wp2_with fail
    go_ret
    exact ⟨rfl, HC2.out⟩
  | true =>
    cases f2 with
    | false =>
      go_wp2_with fail
      go_ret
      exact ⟨rfl, HC2.out⟩
    | true =>
      by_cases hl0 : l.length = 0
      · have g0 : ((l.length : Int) == 0) = true := by rw [beq_iff_eq]; omega
        go_wp2_with fail
        go_ret
        exact ⟨rfl, HC2.out⟩
      · have g0 : ((l.length : Int) == 0) = false := by rw [beq_eq_false_iff_ne]; omega
        have HL0 := Lib.hid hl0
        have HLL := Lib.hid (few_len HF1.out)
        have HFI : Hid (Fine (graph l) 14) := Lib.hid (by
          have h1 := graph_fine HF1.out l.length (Nat.le_refl _)
          rw [List.take_length] at h1
          exact h1.mono (few_len HF1.out))
        go_wp2_with fail
        refine (added_of A c l w2 (HX.out.ch HC2.out) HF1.out).mono ?_
        rintro e w3 ⟨B, rfl, hd3, hc3, hB⟩
        have HD3 := Lib.hid hd3; have HC3 := Lib.hid (HC2.out.then_ hc3); have HB : Hid (w.heap.size ≤ B) := Lib.hid (by have := HC2.out.size; omega)
        clear hd3 hc3 hB
        go_wp2_with fail
        refine (ids_of B (graph l) 14 w3 HD3.out HFI.out (by omega)).mono ?_
        rintro e w4 ⟨v4, rfl, ho4, hc4⟩
        obtain ⟨A4, c4, rfl⟩ := own_shape ho4
        have HR4 := Lib.hid (row_of_own ho4); have HD4 := Lib.hid (HD3.out.ch hc4); have HC4 := Lib.hid (HC3.out.then_ hc4)
        clear ho4 hc4 HD3 HC3
        go_wp2_with fail
        refine (waiting_of B (graph l) 14 w4 HD4.out HFI.out (by omega)).mono ?_
        rintro e w5 ⟨v5, rfl, ho5, hc5⟩
        obtain ⟨A5, c5, rfl⟩ := own_shape ho5
        have HR5 := Lib.hid (row_of_own ho5); have HD5 := Lib.hid (HD4.out.ch hc5); have HC5 := Lib.hid (HC4.out.then_ hc5); have HR4' := Lib.hid (HR4.out.ch hc5)
        clear ho5 hc5 HD4 HC4 HR4
        have hk : m % l.length < l.length := Nat.mod_lt _ (by omega)
        obtain ⟨ad, A6, c6, rfl, p0, p1, hr6⟩ := nd_at (HX.out.ch HC5.out) (m % l.length) hk
        have HKN : Hid ((graph l).known l[m % l.length].id = true) := Lib.hid (by
          have h1 := known_graph l l.length (m % l.length) hk hk
          rwa [List.take_length] at h1)
        have HXZ := Lib.hid (okN_all HF1.out (m % l.length) hk)
        have hmi : (m : Int) % (l.length : Int) = ((m % l.length : Nat) : Int) := by omega
        have hmt : (m : Int).tmod (l.length : Int) = ((m % l.length : Nat) : Int) := by rw [Int.tmod_eq_emod_of_nonneg (by omega)]; exact hmi
        obtain ⟨x, hx⟩ : ∃ x, l[m % l.length] = x := ⟨_, rfl⟩
        rw [hx] at p0 HKN HXZ
        obtain ⟨k, hk'⟩ : ∃ k, m % l.length = k := ⟨_, rfl⟩
        rw [hk'] at hk hmi hmt p0
        clear hx hk' p1 hr6 hl0
        go_wp2_with fail
        refine (parents_of B (graph l) 14 x.id w5 HD5.out HFI.out (by omega)).mono ?_
        rintro e w6 ⟨v6, rfl, ho6, hc6⟩
        obtain ⟨A7, c7, rfl⟩ := own_shape ho6
        have HR6 := Lib.hid (row_of_own ho6); have HD6 := Lib.hid (HD5.out.ch hc6); have HC6 := Lib.hid (HC5.out.then_ hc6); have HR46 := Lib.hid (HR4'.out.ch hc6); have HR56 := Lib.hid (HR5.out.ch hc6)
        clear ho6 hc6 HD5 HC5 HR4' HR5 p0 hmi hmt
        go_wp2_with fail
        have hfew := few_one HF2.out
        have ha := add_of B (graph l) 14 x.id (.slice A2 ps.length c2) ps w6 HD6.out ⟨A2, c2, rfl, HP.out.ch HC6.out⟩ HFI.out (by omega) (by have := HXZ.out.1; omega) (by omega) (fun p hp => by have := hfew.2 p hp; omega)
        rw [add_known HKN.out] at ha
        refine ha.mono ?_
        rintro e w7 ⟨r7, rfl, hv7, hd7, hc7⟩
        obtain ⟨A8, c8, rfl⟩ := row_nil hv7
        have hmaps := HD6.out.maps
        have HD7 := Lib.hid hd7
        have HC7 : Hid (Ch no w w7) := Lib.hid (HC6.out.trans hc7 (fun i hi h => by have := HB.out; rcases h with h | h | h <;> omega))
        have HR67 := Lib.hid (row_keep hmaps hc7 HR6.out); have HR47 := Lib.hid (row_keep hmaps hc7 HR46.out); have HR57 := Lib.hid (row_keep hmaps hc7 HR56.out)
        clear hv7 hd7 hc7 hmaps ha hfew HD6 HC6 HR6 HR46 HR56
        go_wp2_with fail
        refine (ids_of B (graph l) 14 w7 HD7.out HFI.out (by omega)).mono ?_
        rintro e w8 ⟨v8, rfl, ho8, hc8⟩
        obtain ⟨A9, c9, rfl⟩ := own_shape ho8
        have HR8 := Lib.hid (row_of_own ho8); have HD8 := Lib.hid (HD7.out.ch hc8); have HC8 := Lib.hid (HC7.out.then_ hc8)
        have HR48 := Lib.hid (HR47.out.ch hc8); have HR58 := Lib.hid (HR57.out.ch hc8); have HR68 := Lib.hid (HR67.out.ch hc8)
        clear ho8 hc8 HD7 HC7 HR67 HR47 HR57
        go_wp2_with fail
        have hi := ids_any A9 A4 c9 c4 (graph l).allIds (graph l).allIds w8 HR8.out HR48.out
        rw [decide_eq_true rfl] at hi
        refine hi.mono ?_
        rintro e w9 ⟨rfl, hdr⟩
        have HC9 := Lib.hid (HC8.out.then_ (hdr.ch no)); have HD9 := Lib.hid (HD8.out.ch (hdr.ch no))
        have HR59 := Lib.hid (HR58.out.ch (hdr.ch no)); have HR69 := Lib.hid (HR68.out.ch (hdr.ch no))
        clear hi hdr HC8 HD8 HR8 HR48 HR58 HR68
        go_wp2_with fail
        refine (waiting_of B (graph l) 14 w9 HD9.out HFI.out (by omega)).mono ?_
        rintro e w10 ⟨v10, rfl, ho10, hc10⟩
        obtain ⟨A10, c10, rfl⟩ := own_shape ho10
        have HR10 := Lib.hid (row_of_own ho10); have HD10 := Lib.hid (HD9.out.ch hc10); have HC10 := Lib.hid (HC9.out.then_ hc10)
        have HR510 := Lib.hid (HR59.out.ch hc10); have HR610 := Lib.hid (HR69.out.ch hc10)
        clear ho10 hc10 HD9 HC9 HR59 HR69
        go_wp2_with fail
        have hi := ids_any A10 A5 c10 c5 (graph l).waiting (graph l).waiting w10 HR10.out HR510.out
        rw [decide_eq_true rfl] at hi
        refine hi.mono ?_
        rintro e w11 ⟨rfl, hdr⟩
        have HC11 := Lib.hid (HC10.out.then_ (hdr.ch no)); have HD11 := Lib.hid (HD10.out.ch (hdr.ch no))
        have HR611 := Lib.hid (HR610.out.ch (hdr.ch no))
        clear hi hdr HC10 HD10 HR10 HR510 HR610
        go_wp2_with fail
        refine (parents_of B (graph l) 14 x.id w11 HD11.out HFI.out (by omega)).mono ?_
        rintro e w12 ⟨v12, rfl, ho12, hc12⟩
        obtain ⟨A12, c12, rfl⟩ := own_shape ho12
        have HR12 := Lib.hid (row_of_own ho12); have HC12 := Lib.hid (HC11.out.then_ hc12)
        have HR612 := Lib.hid (HR611.out.ch hc12)
        clear ho12 hc12 HD11 HC11 HR611
        go_wp2_with fail
        have hi := ids_any A12 A7 c12 c7 ((graph l).parents x.id) ((graph l).parents x.id) w12 HR12.out HR612.out
        rw [decide_eq_true rfl] at hi
        refine hi.mono ?_
        rintro e w13 ⟨rfl, hdr⟩
        have HC13 := Lib.hid (HC12.out.then_ (hdr.ch no))
        clear hi hdr HC12
        go_wp2_with fail
        go_ret
        exact ⟨rfl, HC13.out⟩
end Go.Proofs.Ytlmcbmgdhpoedaa.Dv
