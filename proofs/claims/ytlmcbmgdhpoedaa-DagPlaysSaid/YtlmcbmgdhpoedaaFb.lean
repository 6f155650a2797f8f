/- The document's graph: ids put and sorted; who is in. -/
import Derived.Test.YtlmcbmgdhpoedaaFa
namespace Go.Proofs.Ytlmcbmgdhpoedaa.Fb
open Go Go.RowKit Go.Proofs.Ytlmcbmgdhpoedaa.Aa Go.Proofs.Ytlmcbmgdhpoedaa.Vw Go.Proofs.Ytlmcbmgdhpoedaa.Da Go.Proofs.Ytlmcbmgdhpoedaa.Db Go.Proofs.Ytlmcbmgdhpoedaa.De Go.Proofs.Ytlmcbmgdhpoedaa.Di Go.Proofs.Ytlmcbmgdhpoedaa.Ds Go.Proofs.Ytlmcbmgdhpoedaa.Du Go.Proofs.Ytlmcbmgdhpoedaa.Fa
set_option linter.unusedVariables false
set_option linter.unusedSimpArgs false

theorem rless_of (a b : Nm) (w : World) (ha : a.size ≤ 1000) (hb : b.size ≤ 1000) :
    Calls Try.prog 44 #[.string a, .string b] w fun e w' => e = .returned (.bool (less a b)) ∧ Ch no w w' := by
  go_enter Try.func44, Try.ntmps44
  go_wp2_with fail
  refine (less_of a b _ (by omega) (by omega)).mono ?_
  rintro e w1 ⟨rfl, hdr⟩
  have HC := Lib.hid (hdr.ch no)
  clear hdr
  obtain ⟨r, hr⟩ : ∃ r, less a b = r := ⟨_, rfl⟩
  rw [hr]
  have HR := Lib.hid hr
  clear hr
  go_wp2_with fail
  go_ret
  exact ⟨by rw [HR.out]; rfl, HC.out⟩
/-- One id more. -/
def putStep (x : Nm) (s : List Nm × Bool) (y : Nm) : List Nm × Bool :=
  if !(s.2 || decide (y = x)) && less x y then (s.1 ++ [x] ++ [y], true) else (s.1 ++ [y], s.2 || decide (y = x))
def putG (x : Nm) (l : List Nm) : List Nm × Bool := l.foldl (putStep x) ([], false)
def putR (l : List Nm) (x : Nm) : List Nm := if (putG x l).2 then (putG x l).1 else (putG x l).1 ++ [x]
theorem putG_next (x : Nm) (l : List Nm) (k : Nat) (hk : k < l.length) : putG x (l.take (k + 1)) = putStep x (putG x (l.take k)) l[k] := by
  unfold putG
  rw [List.take_succ_eq_append_getElem hk, List.foldl_append]
  rfl
theorem putG_len (x : Nm) (l : List Nm) : (putG x l).1.length + (if (putG x l).2 then 0 else 1) ≤ l.length + 1 ∧ (putG x l).1.length ≤ l.length + 1 := by
  have h : ∀ (l : List Nm) (s : List Nm × Bool), (l.foldl (putStep x) s).1.length + (if (l.foldl (putStep x) s).2 then 0 else 1) ≤ s.1.length + (if s.2 then 0 else 1) + l.length := by
    intro l
    induction l with
    | nil => intro s; exact Nat.le_refl _
    | cons y r ih =>
      intro s
      obtain ⟨so, sd⟩ := s
      rw [List.foldl_cons]
      have h1 := ih (putStep x (so, sd) y)
      have h2 : (putStep x (so, sd) y).1.length + (if (putStep x (so, sd) y).2 then 0 else 1) ≤ so.length + (if sd then 0 else 1) + 1 := by
        unfold putStep
        cases sd with
        | true => simp
        | false =>
          by_cases hy : y = x
          · simp [hy]
          · by_cases hl : less x y = true
            · simp [hy, hl]
            · simp [hy, hl]
      simp only [List.length_cons]
      omega
  have h3 := h l ([], false)
  unfold putG
  simp only [List.length_nil, Bool.false_eq_true, if_false] at h3
  constructor
  · omega
  · omega
theorem putR_len (l : List Nm) (x : Nm) : (putR l x).length ≤ l.length + 1 := by
  have h := putG_len x l
  unfold putR
  split
  · exact h.2
  · rename_i hc
    rw [if_neg hc] at h
    rw [List.length_append]
    simp only [List.length_singleton]
    omega
set_option maxRecDepth 100000 in
set_option maxHeartbeats 8000000 in
theorem put_of (A : Option Addr) (c : Nat) (l : List Nm) (x : Nm) (w : World) (h : El.str.Row w A c l) (hl : l.length ≤ 1000) (hz : ∀ y ∈ l, y.size ≤ 1000) (hx : x.size ≤ 1000) :
    Calls Try.prog 45 #[.slice A l.length c, .string x] w fun e w' => ∃ v, e = .returned v ∧ OwnS w' w.heap.size v (putR l x) ∧ Ch no w w' := by
  have hlx := h.len
  obtain ⟨i0, hi, hz0, hz1, hz2⟩ := info_parts infoStr
  have HX := Lib.hid h; have HZ := Lib.hid hz
  have HO0 : Hid (OwnS w w.heap.size (.slice none 0 0) (putG x (l.take 0)).1) := Lib.hid ⟨by simp [putG], .inl ⟨rfl, by simp [putG]⟩⟩
  clear h hz
  go_enter Try.func45, Try.ntmps45
  go_wp2_with fail
  go_loopw [5, 6, 7] (fun o dn i wr => ∃ k : Nat, k ≤ l.length ∧ i = .int .i64 k ∧ dn = .bool (putG x (l.take k)).2 ∧ Hid (OwnS wr w.heap.size o (putG x (l.take k)).1) ∧ Hid (Ch no w wr)) (fun _ _ i _ => l.length - (intOf i).toNat)
  case atStart => exact ⟨0, by omega, rfl, rfl, HO0, Lib.hid (Ch.refl _ _)⟩
  case round =>
    clear HO0
    obtain ⟨k, hk, rfl, rfl, HO, HC⟩ := hrel
    have hgl := (putG_len x (l.take k)).2
    have hwz := HC.out.size
    by_cases hlt : k < l.length
    · obtain ⟨ad, rfl, p0⟩ := (HX.out.ch HC.out).flat_at k hlt
      have HGN := Lib.hid (putG_next x l k hlt)
      have HYZ : Hid (l[k].size ≤ 1000) := Lib.hid (HZ.out _ (List.getElem_mem _))
      rw [List.length_take, Nat.min_eq_left (by omega)] at hgl
      obtain ⟨y, hy⟩ : ∃ y, l[k] = y := ⟨_, rfl⟩
      replace p0 : wr.cell? (ad.add k) = some (.string y) := p0.trans (congrArg (fun z => some (Value.string z)) hy)
      rw [hy] at HGN HYZ
      have HYE := Lib.hid hy
      clear hy
      obtain ⟨s, hs⟩ : ∃ s, putG x (l.take k) = s := ⟨_, rfl⟩
      rw [hs] at HGN HO hgl ⊢
      obtain ⟨so, sd⟩ := s
      clear hs
      obtain ⟨A0, c0, ho0⟩ := own_shape HO.out
      subst ho0
      have hso : so.length ≤ 1001 := by simp only at hgl; omega
      by_cases he : y = x
      · have hbe := beq_yes he
        have HGR : Hid (putG x (l.take (k + 1)) = (so ++ [y], true)) := Lib.hid (by rw [HGN.out]; unfold putStep; simp [he])
        clear he HGN
        go_upto_region 11 with (fail)
        have HRX : Hid (El.str.Row (wr.alloc (.cells #[.string y] 30)) (some ⟨wr.heap.size, 0, none⟩) 1 [y]) := Lib.hid (row_of_own (own_one wr y 0 (Nat.zero_le _)))
        go_wp2_with (at_builtin; refine app_row (fun _ => rfl) rfl _ _ 27 rfl w.heap.size 30 i0 _ 16 Try.underlying27 hi hz0 hz1 hz2 rfl _ so.length _ rfl (own_ch HO.out ((Ch.refl no wr).alloc _) (fun _ _ => no_not _)) (some ⟨wr.heap.size, 0, none⟩) 1 [y] rfl HRX.out (by simp; unfold maxLen; omega) (by simp; omega) (by simp; omega) ?_; intro v9 w_v9 hown9 hgrow9 _; obtain ⟨A_v9, c_v9, h_v9⟩ := own_shape hown9; subst h_v9; have HO_v9 := Lib.hid hown9; have HC_v9 : Hid (Ch (fun k => w.heap.size ≤ k) wr w_v9) := Lib.hid ((((Ch.refl _ wr).alloc _)).same ((grown_ch hgrow9).mono (fun k h => own_ge HO.out k h.symm))); clear hown9 hgrow9)
        go_roundw
        case rel => exact ⟨k + 1, by omega, by go_num, by rw [HGR.out], Lib.hid (by rw [HGR.out]; unfold OwnS; simp only [List.length_append, List.map_append, List.append_assoc]; simpa [List.append_assoc] using HO_v9.out), Lib.hid (HC.out.trans HC_v9.out (fun i hi h => by omega))⟩
        case measure => simp [intOf]; omega
      · have hbe := beq_no he
        cases sd with
        | true =>
          have HGR : Hid (putG x (l.take (k + 1)) = (so ++ [y], true)) := Lib.hid (by rw [HGN.out]; unfold putStep; simp)
          clear he HGN
          go_upto_region 11 with (fail)
          have HRX : Hid (El.str.Row (wr.alloc (.cells #[.string y] 30)) (some ⟨wr.heap.size, 0, none⟩) 1 [y]) := Lib.hid (row_of_own (own_one wr y 0 (Nat.zero_le _)))
          go_wp2_with (at_builtin; refine app_row (fun _ => rfl) rfl _ _ 27 rfl w.heap.size 30 i0 _ 16 Try.underlying27 hi hz0 hz1 hz2 rfl _ so.length _ rfl (own_ch HO.out ((Ch.refl no wr).alloc _) (fun _ _ => no_not _)) (some ⟨wr.heap.size, 0, none⟩) 1 [y] rfl HRX.out (by simp; unfold maxLen; omega) (by simp; omega) (by simp; omega) ?_; intro v9 w_v9 hown9 hgrow9 _; obtain ⟨A_v9, c_v9, h_v9⟩ := own_shape hown9; subst h_v9; have HO_v9 := Lib.hid hown9; have HC_v9 : Hid (Ch (fun k => w.heap.size ≤ k) wr w_v9) := Lib.hid ((((Ch.refl _ wr).alloc _)).same ((grown_ch hgrow9).mono (fun k h => own_ge HO.out k h.symm))); clear hown9 hgrow9)
          go_roundw
          case rel => exact ⟨k + 1, by omega, by go_num, by rw [HGR.out], Lib.hid (by rw [HGR.out]; unfold OwnS; simp only [List.length_append, List.map_append, List.append_assoc]; simpa [List.append_assoc] using HO_v9.out), Lib.hid (HC.out.trans HC_v9.out (fun i hi h => by omega))⟩
          case measure => simp [intOf]; omega
        | false =>
          obtain ⟨r, hr⟩ : ∃ r, less x y = r := ⟨_, rfl⟩
          have hsl := rless_of x y wr hx HYZ.out
          rw [hr] at hsl
          have HR := Lib.hid hr
          clear hr
          cases r with
          | true =>
            have HGR : Hid (putG x (l.take (k + 1)) = (so ++ [x] ++ [y], true)) := Lib.hid (by rw [HGN.out]; unfold putStep; simp [he, HR.out])
            clear he HGN
            go_wp2_with fail
            refine hsl.mono ?_
            rintro e w2 ⟨rfl, hc2⟩
            have HC2 := Lib.hid (HC.out.then_ hc2)
            have HO2 := Lib.hid (own_ch HO.out hc2 (fun _ _ => no_not _))
            replace p0 := cell_ch hc2 p0
            have hwz2 := HC2.out.size
            clear hc2 hsl
            go_upto_region 9 with (fail)
            have HRX : Hid (El.str.Row (w2.alloc (.cells #[.string x] 30)) (some ⟨w2.heap.size, 0, none⟩) 1 [x]) := Lib.hid (row_of_own (own_one w2 x 0 (Nat.zero_le _)))
            go_wp2_with (first | (at_builtin; refine app_row (fun _ => rfl) rfl _ _ 27 rfl w.heap.size 30 i0 _ 16 Try.underlying27 hi hz0 hz1 hz2 rfl _ so.length _ rfl (own_ch HO2.out ((Ch.refl no w2).alloc _) (fun _ _ => no_not _)) (some ⟨w2.heap.size, 0, none⟩) 1 [x] rfl HRX.out (by simp; unfold maxLen; omega) (by simp; omega) (by simp; omega) ?_; intro v8 w_v8 hown9 hgrow9 _; obtain ⟨A_v8, c_v8, h_v8⟩ := own_shape hown9; subst h_v8; have HO_v8 := Lib.hid hown9; have HC_v8 : Hid (Ch (fun k => w.heap.size ≤ k) w2 w_v8) := Lib.hid ((((Ch.refl _ w2).alloc _)).same ((grown_ch hgrow9).mono (fun k h => own_ge HO2.out k h.symm))); clear hown9 hgrow9; have HC8 : Hid (Ch no w w_v8) := Lib.hid (HC2.out.trans HC_v8.out (fun i hi h => by omega)); clear p0; obtain ⟨ad', had, p0⟩ := (HX.out.ch HC8.out).flat_at k hlt; cases had; replace p0 := p0.trans (congrArg (fun z => some (Value.string z)) HYE.out); have hwz8 := HC8.out.size; have HRY : Hid (El.str.Row (w_v8.alloc (.cells #[.string y] 30)) (some ⟨w_v8.heap.size, 0, none⟩) 1 [y]) := Lib.hid (row_of_own (own_one w_v8 y 0 (Nat.zero_le _)))) | (at_builtin; refine app_row (fun _ => rfl) rfl _ _ 27 rfl w.heap.size 30 i0 _ 16 Try.underlying27 hi hz0 hz1 hz2 rfl _ (so.length + [x].length) _ rfl (own_ch HO_v8.out ((Ch.refl no w_v8).alloc _) (fun _ _ => no_not _)) (some ⟨w_v8.heap.size, 0, none⟩) 1 [y] rfl HRY.out (by simp; unfold maxLen; omega) (by simp; omega) (by simp; omega) ?_; intro v9 w_v9 hown9 hgrow9 _; obtain ⟨A_v9, c_v9, h_v9⟩ := own_shape hown9; subst h_v9; have HO_v9 := Lib.hid hown9; have HC_v9 : Hid (Ch (fun k => w.heap.size ≤ k) w_v8 w_v9) := Lib.hid ((((Ch.refl _ w_v8).alloc _)).same ((grown_ch hgrow9).mono (fun k h => own_ge HO_v8.out k h.symm))); clear hown9 hgrow9))
            go_roundw
            case rel => exact ⟨k + 1, by omega, by go_num, by rw [HGR.out], Lib.hid (by rw [HGR.out]; unfold OwnS; simp only [List.length_append, List.map_append, List.append_assoc]; simpa [List.append_assoc] using HO_v9.out), Lib.hid (HC8.out.trans HC_v9.out (fun i hi h => by omega))⟩
            case measure => simp [intOf]; omega
          | false =>
            have HGR : Hid (putG x (l.take (k + 1)) = (so ++ [y], false)) := Lib.hid (by rw [HGN.out]; unfold putStep; simp [he, HR.out])
            clear he HGN
            go_wp2_with fail
            refine hsl.mono ?_
            rintro e w2 ⟨rfl, hc2⟩
            have HC2 := Lib.hid (HC.out.then_ hc2)
            have HO2 := Lib.hid (own_ch HO.out hc2 (fun _ _ => no_not _))
            replace p0 := cell_ch hc2 p0
            have hwz2 := HC2.out.size
            clear hc2 hsl
            go_upto_region 11 with (fail)
            have HRX : Hid (El.str.Row (w2.alloc (.cells #[.string y] 30)) (some ⟨w2.heap.size, 0, none⟩) 1 [y]) := Lib.hid (row_of_own (own_one w2 y 0 (Nat.zero_le _)))
            go_wp2_with (at_builtin; refine app_row (fun _ => rfl) rfl _ _ 27 rfl w.heap.size 30 i0 _ 16 Try.underlying27 hi hz0 hz1 hz2 rfl _ so.length _ rfl (own_ch HO2.out ((Ch.refl no w2).alloc _) (fun _ _ => no_not _)) (some ⟨w2.heap.size, 0, none⟩) 1 [y] rfl HRX.out (by simp; unfold maxLen; omega) (by simp; omega) (by simp; omega) ?_; intro v9 w_v9 hown9 hgrow9 _; obtain ⟨A_v9, c_v9, h_v9⟩ := own_shape hown9; subst h_v9; have HO_v9 := Lib.hid hown9; have HC_v9 : Hid (Ch (fun k => w.heap.size ≤ k) w2 w_v9) := Lib.hid ((((Ch.refl _ w2).alloc _)).same ((grown_ch hgrow9).mono (fun k h => own_ge HO2.out k h.symm))); clear hown9 hgrow9)
            go_roundw
            case rel => exact ⟨k + 1, by omega, by go_num, by rw [HGR.out], Lib.hid (by rw [HGR.out]; unfold OwnS; simp only [List.length_append, List.map_append, List.append_assoc]; simpa [List.append_assoc] using HO_v9.out), Lib.hid (HC2.out.trans HC_v9.out (fun i hi h => by omega))⟩
            case measure => simp [intOf]; omega
    · have HT : Hid (l.take k = l) := Lib.hid (by rw [List.take_of_length_le (by omega)])
      rw [HT.out] at HO hgl ⊢
      obtain ⟨s, hs⟩ : ∃ s, putG x l = s := ⟨_, rfl⟩
      have HPR : Hid (putR l x = if s.2 then s.1 else s.1 ++ [x]) := Lib.hid (by unfold putR; rw [hs])
      rw [hs] at HO hgl ⊢
      obtain ⟨so, sd⟩ := s
      clear hs
      obtain ⟨A0, c0, ho0⟩ := own_shape HO.out
      subst ho0
      have hso : so.length ≤ 1001 := by simp only at hgl; omega
      cases sd with
      | true =>
        go_wp2_with fail
        go_ret
        exact ⟨_, rfl, by rw [HPR.out]; exact HO.out, HC.out⟩
      | false =>
        go_upto_region 13 with (fail)
        have HRX : Hid (El.str.Row (wr.alloc (.cells #[.string x] 30)) (some ⟨wr.heap.size, 0, none⟩) 1 [x]) := Lib.hid (row_of_own (own_one wr x 0 (Nat.zero_le _)))
        go_wp2_with (at_builtin; refine app_row (fun _ => rfl) rfl _ _ 27 rfl w.heap.size 30 i0 _ 16 Try.underlying27 hi hz0 hz1 hz2 rfl _ so.length _ rfl (own_ch HO.out ((Ch.refl no wr).alloc _) (fun _ _ => no_not _)) (some ⟨wr.heap.size, 0, none⟩) 1 [x] rfl HRX.out (by simp; unfold maxLen; omega) (by simp; omega) (by simp; omega) ?_; intro v9 w_v9 hown9 hgrow9 _; obtain ⟨A_v9, c_v9, h_v9⟩ := own_shape hown9; subst h_v9; have HO_v9 := Lib.hid hown9; have HC_v9 : Hid (Ch (fun k => w.heap.size ≤ k) wr w_v9) := Lib.hid ((((Ch.refl _ wr).alloc _)).same ((grown_ch hgrow9).mono (fun k h => own_ge HO.out k h.symm))); clear hown9 hgrow9)
        go_ret
        exact ⟨_, rfl, by rw [HPR.out]; unfold OwnS; rw [if_neg (by simp), List.length_append, List.map_append]; exact HO_v9.out, HC.out.trans HC_v9.out (fun i hi h => by omega)⟩
end Go.Proofs.Ytlmcbmgdhpoedaa.Fb
