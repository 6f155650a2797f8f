/- The document's graph: its heads: walked. -/
import Derived.Test.YtlmcbmgdhpoedaaFg
namespace Go.Proofs.Ytlmcbmgdhpoedaa.Fh
open Go Go.RowKit Go.Proofs.Ytlmcbmgdhpoedaa.Aa Go.Proofs.Ytlmcbmgdhpoedaa.Vw Go.Proofs.Ytlmcbmgdhpoedaa.Da Go.Proofs.Ytlmcbmgdhpoedaa.Db Go.Proofs.Ytlmcbmgdhpoedaa.De Go.Proofs.Ytlmcbmgdhpoedaa.Di Go.Proofs.Ytlmcbmgdhpoedaa.Ds Go.Proofs.Ytlmcbmgdhpoedaa.Du Go.Proofs.Ytlmcbmgdhpoedaa.Fa Go.Proofs.Ytlmcbmgdhpoedaa.Fb Go.Proofs.Ytlmcbmgdhpoedaa.Fc Go.Proofs.Ytlmcbmgdhpoedaa.Fd Go.Proofs.Ytlmcbmgdhpoedaa.Fe
set_option linter.unusedVariables false
set_option linter.unusedSimpArgs false

def hfold (x : Nm) (ns : List Nd) (h : Bool) : Bool := h && !(ns.any (fun m => m.inn && decide (x ∈ m.par)))
def pfold (x : Nm) (ps : List Nm) (h : Bool) : Bool := h && !(decide (x ∈ ps))
theorem hfold_next (x : Nm) (ns : List Nd) (h : Bool) (k : Nat) (hk : k < ns.length) : hfold x (ns.take (k + 1)) h = if ns[k].inn then pfold x ns[k].par (hfold x (ns.take k) h) else hfold x (ns.take k) h := by
  unfold hfold pfold
  rw [List.take_succ_eq_append_getElem hk, List.any_append]
  cases hb : ns[k].inn <;> simp [hb, Bool.and_assoc]
theorem pfold_yes (x : Nm) (ps : List Nm) (h : Bool) (k : Nat) (hk : k < ps.length) (he : ps[k] = x) : pfold x (ps.take (k + 1)) h = false := by
  unfold pfold
  rw [List.take_succ_eq_append_getElem hk]
  simp [he]
theorem pfold_no (x : Nm) (ps : List Nm) (h : Bool) (k : Nat) (hk : k < ps.length) (he : ps[k] ≠ x) : pfold x (ps.take (k + 1)) h = pfold x (ps.take k) h := by
  unfold pfold
  have hne : x ≠ ps[k] := fun e => he e.symm
  rw [decide_eq_decide.2 (show x ∈ ps.take (k + 1) ↔ x ∈ ps.take k by rw [List.take_succ_eq_append_getElem hk, List.mem_append]; simp [hne])]
theorem pfold_off (x : Nm) (ps : List Nm) (h : Bool) (k : Nat) (hk : k < ps.length) (he : pfold x (ps.take k) h = false) : pfold x (ps.take (k + 1)) h = false := by
  by_cases h1 : ps[k] = x
  · exact pfold_yes x ps h k hk h1
  · rw [pfold_no x ps h k hk h1]; exact he
def rheadsT (L ns : List Nd) : List Nm := (ns.filter (fun n => hfold n.id L n.inn)).map (·.id)
def rheads (L : List Nd) : List Nm := rheadsT L L
theorem rheads_yes {L : List Nd} {k : Nat} (hk : k < L.length) (h : hfold L[k].id L L[k].inn = true) : rheadsT L (L.take (k + 1)) = rheadsT L (L.take k) ++ [L[k].id] := by
  unfold rheadsT
  rw [List.take_succ_eq_append_getElem hk, List.filter_append, List.map_append]
  simp [h]
theorem rheads_no {L : List Nd} {k : Nat} (hk : k < L.length) (h : hfold L[k].id L L[k].inn = false) : rheadsT L (L.take (k + 1)) = rheadsT L (L.take k) := by
  unfold rheadsT
  rw [List.take_succ_eq_append_getElem hk, List.filter_append, List.map_append]
  simp [h]
theorem rheads_len (L ns : List Nd) : (rheadsT L ns).length ≤ ns.length := by
  unfold rheadsT
  rw [List.length_map]
  exact List.length_filter_le _ _
set_option maxRecDepth 100000 in
set_option maxHeartbeats 8000000 in
theorem rheads_of (R : Nat) (L : List Nd) (w : World) (h : RefV w R L) (hl : L.length ≤ 1000) :
    Calls Try.prog 29 #[rptr R] w fun e w' => ∃ v, e = .returned v ∧ OwnS w' w.heap.size v (rheads L) ∧ Ch no w w' := by
  obtain ⟨A, c, hb, hr⟩ := h.ex
  have hlx := hr.len
  obtain ⟨i0, hi, hz0, hz1, hz2⟩ := info_parts infoStr
  have HB := Lib.hid hb; have HX := Lib.hid hr
  have HO0 : Hid (OwnS w w.heap.size (.slice none 0 0) (rheadsT L (L.take 0))) := Lib.hid ⟨by simp [rheadsT], .inl ⟨rfl, by simp [rheadsT]⟩⟩
  clear hb hr h
  go_enter Try.func29, Try.ntmps29
  go_wp2_with fail
  go_loopw [3, 4] (fun o i wr => ∃ k : Nat, k ≤ L.length ∧ i = .int .i64 k ∧ Hid (OwnS wr w.heap.size o (rheadsT L (L.take k))) ∧ Hid (Ch no w wr)) (fun _ i _ => L.length - (intOf i).toNat)
  case atStart => exact ⟨0, by omega, rfl, HO0, Lib.hid (Ch.refl _ _)⟩
  case round =>
    clear HO0
    obtain ⟨k, hk, rfl, HO, HC⟩ := hrel
    have hgl := rheads_len L (L.take k)
    have hwz := HC.out.size
    have hc0 := (bCell (HC.out.blk HB.out (no_not _)) 0).trans rfl
    by_cases hlt : k < L.length
    · obtain ⟨ad, A2, c2, rfl, p0, _, _⟩ := nd_at (HX.out.ch HC.out) k hlt
      obtain ⟨ad', had, p2⟩ := nd_at3 (HX.out.ch HC.out) k hlt
      cases had
      have HY := Lib.hid (rheads_yes hlt)
      have HN := Lib.hid (rheads_no hlt)
      rw [List.length_take, Nat.min_eq_left (by omega)] at hgl
      obtain ⟨y, hy⟩ : ∃ y, L[k].id = y := ⟨_, rfl⟩
      obtain ⟨b, hb⟩ : ∃ b, L[k].inn = b := ⟨_, rfl⟩
      rw [hy] at p0 HY HN
      rw [hb] at p2 HY HN
      have HYE := Lib.hid hy; have HBE := Lib.hid hb
      clear hy hb
      obtain ⟨so, hso⟩ : ∃ so, rheadsT L (L.take k) = so := ⟨_, rfl⟩
      rw [hso] at HO HY HN hgl
      clear hso
      obtain ⟨A0, c0, ho0⟩ := own_shape HO.out
      subst ho0
      have HF0 : Hid (b = hfold y (L.take 0) b) := Lib.hid (by unfold hfold; simp)
      go_wp2_with fail
      go_loopw [5, 6] (fun f j wz => ∃ m : Nat, m ≤ L.length ∧ j = .int .i64 m ∧ f = .bool (hfold y (L.take m) b) ∧ Hid (Ch no wr wz)) (fun _ j _ => L.length - (intOf j).toNat)
      case atStart => exact ⟨0, by omega, rfl, by rw [← HF0.out], Lib.hid (Ch.refl _ _)⟩
      case round =>
        clear HF0
        obtain ⟨m, hm, rfl, rfl, HZ⟩ := hrel
        have HC2 := Lib.hid (HC.out.then_ HZ.out)
        have hwz2 := HC2.out.size
        replace p0 := cell_ch HZ.out p0
        replace p2 := cell_ch HZ.out p2
        replace hc0 := (bCell (HC2.out.blk HB.out (no_not _)) 0).trans rfl
        by_cases hlm : m < L.length
        · obtain ⟨ad', A3, c3, had, q0, q1, hr3⟩ := nd_at (HX.out.ch HC2.out) m hlm
          cases had
          obtain ⟨ad', had, q2⟩ := nd_at3 (HX.out.ch HC2.out) m hlm
          cases had
          have hlq := hr3.len
          have HHN := Lib.hid (hfold_next y L b m hlm)
          obtain ⟨nn, hnn⟩ : ∃ nn, L[m] = nn := ⟨_, rfl⟩
          rw [hnn] at q0 q1 q2 hr3 hlq HHN
          clear hnn
          obtain ⟨id3, ps, b3⟩ := nn
          have HR3 := Lib.hid hr3
          simp only at q0 q1 q2 hlq HR3 HHN
          clear hr3
          obtain ⟨hf, hhf⟩ : ∃ hf, hfold y (L.take m) b = hf := ⟨_, rfl⟩
          rw [hhf] at HHN
          rw [hhf]
          clear hhf
          cases b3 with
          | false =>
            have HGN : Hid (hfold y (L.take (m + 1)) b = hf) := Lib.hid (by rw [HHN.out]; rfl)
            clear HHN
            go_wp2_with fail
            go_loopw [5, 7] (fun f j wz => f = .bool hf ∧ j = .int .i64 (0 : Nat) ∧ wr = wz) (fun _ _ _ => 0)
            case atStart => exact ⟨rfl, rfl, rfl⟩
            case round =>
              obtain ⟨rfl, rfl, rfl⟩ := hrel
              by_cases h0 : (0 : Int) < (ps.length : Int)
              · go_wp2_with fail
                go_roundw
                case rel => exact ⟨m + 1, by omega, by go_num, by rw [HGN.out], HZ⟩
                case measure => simp [intOf]; omega
              · go_wp2_with fail
                go_roundw
                case rel => exact ⟨m + 1, by omega, by go_num, by rw [HGN.out], HZ⟩
                case measure => simp [intOf]; omega
          | true =>
            have HGN : Hid (hfold y (L.take (m + 1)) b = pfold y ps hf) := Lib.hid (by rw [HHN.out]; rfl)
            have HP0 : Hid (hf = pfold y (ps.take 0) hf) := Lib.hid (by unfold pfold; simp)
            clear HHN
            go_wp2_with fail
            go_loopw [5, 7] (fun f j wz => ∃ l : Nat, l ≤ ps.length ∧ j = .int .i64 l ∧ f = .bool (pfold y (ps.take l) hf) ∧ Hid (Ch no wr wz)) (fun _ j _ => ps.length - (intOf j).toNat)
            case atStart => exact ⟨0, by omega, rfl, by rw [← HP0.out], Lib.hid (Ch.refl _ _)⟩
            case round =>
              clear HP0
              obtain ⟨l, hl2, rfl, rfl, HV⟩ := hrel
              have HC3 := Lib.hid (HC2.out.then_ HV.out)
              have HZ3 := Lib.hid (HZ.out.then_ HV.out)
              replace p0 := cell_ch HV.out p0
              replace q1 := cell_ch HV.out q1
              replace q2 := cell_ch HV.out q2
              replace hc0 := (bCell (HC3.out.blk HB.out (no_not _)) 0).trans rfl
              by_cases hll : l < ps.length
              · obtain ⟨a4, rfl, p4⟩ := (HR3.out.ch HV.out).flat_at l hll
                cases hpf : pfold y (ps.take l) hf with
                | false =>
                  have HPN := Lib.hid (pfold_off y ps hf l hll hpf)
                  clear hpf
                  go_wp2_with fail
                  go_quiet (fail)
                  go_wp2_with fail
                  go_roundw
                  case rel => exact ⟨l + 1, by omega, by go_num, by rw [HPN.out], Lib.hid (HV.out.drewN _)⟩
                  case measure => simp [intOf]; omega
                | true =>
                  by_cases he : ps[l] = y
                  · have hbe := beq_yes he
                    have HPN := Lib.hid (pfold_yes y ps hf l hll he)
                    clear he hpf
                    obtain ⟨u, hu⟩ : ∃ u, ps[l] = u := ⟨_, rfl⟩
                    replace p4 : wr.cell? (a4.add l) = some (.string u) := p4.trans (congrArg (fun z => some (Value.string z)) hu)
                    rw [hu] at hbe
                    clear hu
                    go_wp2_with fail
                    go_quiet (fail)
                    go_wp2_with fail
                    go_roundw
                    case rel => exact ⟨l + 1, by omega, by go_num, by rw [HPN.out], Lib.hid (HV.out.drewN _)⟩
                    case measure => simp [intOf]; omega
                  · have hbe := beq_no he
                    have HPN := Lib.hid ((pfold_no y ps hf l hll he).trans hpf)
                    clear he hpf
                    obtain ⟨u, hu⟩ : ∃ u, ps[l] = u := ⟨_, rfl⟩
                    replace p4 : wr.cell? (a4.add l) = some (.string u) := p4.trans (congrArg (fun z => some (Value.string z)) hu)
                    rw [hu] at hbe
                    clear hu
                    go_wp2_with fail
                    go_quiet (fail)
                    go_wp2_with fail
                    go_roundw
                    case rel => exact ⟨l + 1, by omega, by go_num, by rw [HPN.out], Lib.hid (HV.out.drewN _)⟩
                    case measure => simp [intOf]; omega
              · have HT : Hid (ps.take l = ps) := Lib.hid (by rw [List.take_of_length_le (by omega)])
                rw [HT.out, ← HGN.out]
                go_wp2_with fail
                go_roundw
                case rel => exact ⟨m + 1, by omega, by go_num, rfl, HZ3⟩
                case measure => simp [intOf]; omega
        · have HT : Hid (L.take m = L) := Lib.hid (by rw [List.take_of_length_le (by omega)])
          rw [HT.out]
          have HO2 := Lib.hid (own_ch HO.out HZ.out (fun _ _ => no_not _))
          cases hhd : hfold y L b with
          | false =>
            have HGR := Lib.hid (HN.out hhd)
            clear hhd HY HN
            go_wp2_with fail
            go_roundw
            case rel => exact ⟨k + 1, by omega, by go_num, Lib.hid (by rw [HGR.out]; exact HO2.out), HC2⟩
            case measure => simp [intOf]; omega
          | true =>
            have HGR := Lib.hid (HY.out hhd)
            clear hhd HY HN
            go_upto_region 14 with (fail)
            have HRX : Hid (El.str.Row (wr.alloc (.cells #[.string y] 30)) (some ⟨wr.heap.size, 0, none⟩) 1 [y]) := Lib.hid (row_of_own (own_one wr y 0 (Nat.zero_le _)))
            go_wp2_with (at_builtin; refine app_row (fun _ => rfl) rfl _ _ 27 rfl w.heap.size 30 i0 _ 16 Try.underlying27 hi hz0 hz1 hz2 rfl _ so.length _ rfl (own_ch HO2.out ((Ch.refl no wr).alloc _) (fun _ _ => no_not _)) (some ⟨wr.heap.size, 0, none⟩) 1 [y] rfl HRX.out (by simp; unfold maxLen; omega) (by simp; omega) (by simp; omega) ?_; intro v9 w_v9 hown9 hgrow9 _; obtain ⟨A_v9, c_v9, h_v9⟩ := own_shape hown9; subst h_v9; have HO_v9 := Lib.hid hown9; have HC_v9 : Hid (Ch (fun k => w.heap.size ≤ k) wr w_v9) := Lib.hid ((((Ch.refl _ wr).alloc _)).same ((grown_ch hgrow9).mono (fun k h => own_ge HO2.out k h.symm))); clear hown9 hgrow9)
            go_roundw
            case rel => exact ⟨k + 1, by omega, by go_num, Lib.hid (by rw [HGR.out]; unfold OwnS; simp only [List.length_append, List.map_append, List.append_assoc]; simpa [List.append_assoc] using HO_v9.out), Lib.hid (HC2.out.trans HC_v9.out (fun i hi h => by omega))⟩
            case measure => simp [intOf]; omega
    · have HT : Hid (L.take k = L) := Lib.hid (by rw [List.take_of_length_le (by omega)])
      have h1 := HO.out
      rw [HT.out] at h1
      have HO1 := Lib.hid h1
      clear h1
      go_wp2_with fail
      go_ret
      exact ⟨_, rfl, HO1.out, HC.out⟩
end Go.Proofs.Ytlmcbmgdhpoedaa.Fh
