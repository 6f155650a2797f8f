/- The document's graph: all that are in or wait, what they lack, an id's parents: walked. -/
import Derived.Test.YtlmcbmgdhpoedaaFd
namespace Go.Proofs.Ytlmcbmgdhpoedaa.Fe
open Go Go.RowKit Go.Proofs.Ytlmcbmgdhpoedaa.Aa Go.Proofs.Ytlmcbmgdhpoedaa.Vw Go.Proofs.Ytlmcbmgdhpoedaa.Da Go.Proofs.Ytlmcbmgdhpoedaa.Db Go.Proofs.Ytlmcbmgdhpoedaa.De Go.Proofs.Ytlmcbmgdhpoedaa.Di Go.Proofs.Ytlmcbmgdhpoedaa.Ds Go.Proofs.Ytlmcbmgdhpoedaa.Du Go.Proofs.Ytlmcbmgdhpoedaa.Fa Go.Proofs.Ytlmcbmgdhpoedaa.Fb Go.Proofs.Ytlmcbmgdhpoedaa.Fc Go.Proofs.Ytlmcbmgdhpoedaa.Fd
set_option linter.unusedVariables false
set_option linter.unusedSimpArgs false

/-- Of a size that is looked at. -/
structure Sm (L : List Nd) : Prop where
  len : L.length ≤ 14
  idz : ∀ n ∈ L, n.id.size ≤ 40
  pl : ∀ n ∈ L, n.par.length ≤ 6
  pz : ∀ n ∈ L, ∀ p ∈ n.par, p.size ≤ 40
def rall (L : List Nd) (b : Bool) : List Nm := (L.filter (fun n => n.inn == b)).map (·.id)
theorem rall_yes {L : List Nd} {b : Bool} {k : Nat} (hk : k < L.length) (h : L[k].inn = b) : rall (L.take (k + 1)) b = rall (L.take k) b ++ [L[k].id] := by
  unfold rall
  rw [List.take_succ_eq_append_getElem hk, List.filter_append, List.map_append]
  simp [h]
theorem rall_no {L : List Nd} {b : Bool} {k : Nat} (hk : k < L.length) (h : L[k].inn ≠ b) : rall (L.take (k + 1)) b = rall (L.take k) b := by
  unfold rall
  rw [List.take_succ_eq_append_getElem hk, List.filter_append, List.map_append]
  have : (L[k].inn == b) = false := by simpa using h
  simp [this]
theorem rall_len (L : List Nd) (b : Bool) : (rall L b).length ≤ L.length := by
  unfold rall
  rw [List.length_map]
  exact List.length_filter_le _ _
set_option maxRecDepth 100000 in
set_option maxHeartbeats 4000000 in
theorem rall_of (R : Nat) (L : List Nd) (b : Bool) (w : World) (h : RefV w R L) (hl : L.length ≤ 1000) :
    Calls Try.prog 22 #[rptr R, .bool b] w fun e w' => ∃ v, e = .returned v ∧ OwnS w' w.heap.size v (rall L b) ∧ Ch no w w' := by
  obtain ⟨A, c, hb, hr⟩ := h.ex
  have hlx := hr.len
  obtain ⟨i0, hi, hz0, hz1, hz2⟩ := info_parts infoStr
  have HB := Lib.hid hb; have HX := Lib.hid hr
  have HO0 : Hid (OwnS w w.heap.size (.slice none 0 0) (rall (L.take 0) b)) := Lib.hid ⟨by simp [rall], .inl ⟨rfl, by simp [rall]⟩⟩
  clear hb hr h
  go_enter Try.func22, Try.ntmps22
  go_wp2_with fail
  go_loopw [5, 6] (fun o i wr => ∃ k : Nat, k ≤ L.length ∧ i = .int .i64 k ∧ Hid (OwnS wr w.heap.size o (rall (L.take k) b)) ∧ Hid (Ch no w wr)) (fun _ i _ => L.length - (intOf i).toNat)
  case atStart => exact ⟨0, by omega, rfl, HO0, Lib.hid (Ch.refl _ _)⟩
  case round =>
    clear HO0
    obtain ⟨k, hk, rfl, HO, HC⟩ := hrel
    have hgl := rall_len (L.take k) b
    have hwz := HC.out.size
    have hc0 := (bCell (HC.out.blk HB.out (no_not _)) 0).trans rfl
    by_cases hlt : k < L.length
    · obtain ⟨ad, A2, c2, rfl, p0, _, _⟩ := nd_at (HX.out.ch HC.out) k hlt
      obtain ⟨ad', had, p2⟩ := nd_at3 (HX.out.ch HC.out) k hlt
      cases had
      have HY := Lib.hid (rall_yes (b := b) hlt)
      have HN := Lib.hid (rall_no (b := b) hlt)
      rw [List.length_take, Nat.min_eq_left (by omega)] at hgl
      obtain ⟨y, hy⟩ : ∃ y, L[k].id = y := ⟨_, rfl⟩
      obtain ⟨q, hq⟩ : ∃ q, L[k].inn = q := ⟨_, rfl⟩
      rw [hy] at p0 HY
      rw [hq] at p2 HY HN
      clear hy hq
      obtain ⟨so, hso⟩ : ∃ so, rall (L.take k) b = so := ⟨_, rfl⟩
      rw [hso] at HO HY HN hgl
      clear hso
      obtain ⟨A0, c0, ho0⟩ := own_shape HO.out
      subst ho0
      by_cases he : q = b
      · have hbe : (q == b) = true := by rw [he]; simp
        have HGR := Lib.hid (HY.out he)
        clear he HY HN
        go_upto_region 6 with (fail)
        have HRX : Hid (El.str.Row (wr.alloc (.cells #[.string y] 30)) (some ⟨wr.heap.size, 0, none⟩) 1 [y]) := Lib.hid (row_of_own (own_one wr y 0 (Nat.zero_le _)))
        go_wp2_with (at_builtin; refine app_row (fun _ => rfl) rfl _ _ 27 rfl w.heap.size 30 i0 _ 16 Try.underlying27 hi hz0 hz1 hz2 rfl _ so.length _ rfl (own_ch HO.out ((Ch.refl no wr).alloc _) (fun _ _ => no_not _)) (some ⟨wr.heap.size, 0, none⟩) 1 [y] rfl HRX.out (by simp; unfold maxLen; omega) (by simp; omega) (by simp; omega) ?_; intro v9 w_v9 hown9 hgrow9 _; obtain ⟨A_v9, c_v9, h_v9⟩ := own_shape hown9; subst h_v9; have HO_v9 := Lib.hid hown9; have HC_v9 : Hid (Ch (fun k => w.heap.size ≤ k) wr w_v9) := Lib.hid ((((Ch.refl _ wr).alloc _)).same ((grown_ch hgrow9).mono (fun k h => own_ge HO.out k h.symm))); clear hown9 hgrow9)
        go_roundw
        case rel => exact ⟨k + 1, by omega, by go_num, Lib.hid (by rw [HGR.out]; unfold OwnS; simp only [List.length_append, List.map_append, List.append_assoc]; simpa [List.append_assoc] using HO_v9.out), Lib.hid (HC.out.trans HC_v9.out (fun i hi h => by omega))⟩
        case measure => simp [intOf]; omega
      · have hbe : (q == b) = false := by simpa using he
        have HGR := Lib.hid (HN.out he)
        clear he HY HN
        go_wp2_with fail
        go_roundw
        case rel => exact ⟨k + 1, by omega, by go_num, Lib.hid (by rw [HGR.out]; exact HO.out), HC⟩
        case measure => simp [intOf]; omega
    · have HT : Hid (L.take k = L) := Lib.hid (by rw [List.take_of_length_le (by omega)])
      have h1 := HO.out
      rw [HT.out] at h1
      have HO1 := Lib.hid h1
      clear h1
      go_wp2_with fail
      go_ret
      exact ⟨_, rfl, HO1.out, HC.out⟩

/-- Parents. -/
def rpar (L : List Nd) (x : Nm) : List Nm := match at? L x with | some n => if n.inn then n.par else [] | none => []
set_option maxRecDepth 100000 in
set_option maxHeartbeats 4000000 in
theorem rpar_of (R : Nat) (L : List Nd) (x : Nm) (w : World) (h : RefV w R L) :
    Calls Try.prog 28 #[rptr R, .string x] w fun e w' => ∃ v, e = .returned v ∧ RowV w' v (rpar L x) ∧ Ch no w w' := by
  obtain ⟨A, c, hb, hr⟩ := h.ex
  have hlx := hr.len
  have hc0 := (bCell hb 0).trans rfl
  have hh := rhas_of R L x w h
  have HF : Hid (∀ n, Calls Try.prog 41 #[rptr R, .string x] (w.drewN n) fun e w' => e = .returned (.int .i64 (findN L x)) ∧ Dr (w.drewN n) w') := Lib.hid (fun n => (find_of R L x (w.drewN n) (h.ch ((Ch.refl no w).drewN n))).mono (by rintro e w' ⟨rfl, rfl⟩; exact ⟨rfl, Dr.refl _⟩))
  have HX := Lib.hid hr
  clear hb hr h
  cases hq : rhas L x with
  | false =>
    have HR : Hid (rpar L x = []) := Lib.hid (by
      unfold rhas at hq; unfold rpar
      cases h : at? L x with
      | none => rfl
      | some n => rw [h] at hq; simp only at hq; simp [hq])
    rw [hq] at hh
    clear hq
    go_enter Try.func28, Try.ntmps28
    go_wp2_with fail
    refine hh.mono ?_
    rintro e w' ⟨rfl, hw⟩
    subst hw
    clear hh
    go_wp2_with fail
    go_ret
    exact ⟨_, rfl, by rw [HR.out]; exact RowV.nil _, Ch.refl _ _⟩
  | true =>
    rcases findN_cases L x with ⟨h1, h2⟩ | ⟨k, hk, h1, h2, h3⟩
    · unfold rhas at hq; rw [h2] at hq; cases hq
    · obtain ⟨ad, A2, c2, rfl, _, p1, hr2⟩ := nd_at HX.out k hk
      have HR : Hid (rpar L x = L[k].par) := Lib.hid (by
        unfold rhas at hq; unfold rpar
        rw [h3] at hq ⊢
        simp only at hq ⊢
        rw [if_pos hq])
      rw [h1] at HF
      rw [hq] at hh
      clear h1 h2 h3 hq
      have HR2 := Lib.hid hr2
      clear hr2
      go_enter Try.func28, Try.ntmps28
      go_wp2_with fail
      refine hh.mono ?_
      rintro e w' ⟨rfl, hw⟩
      subst hw
      clear hh
      go_wp2_with fail
      go_quiet ((go_at_call 41; exact Calls.quiet_of (HF.out _)))
      go_wp2_with fail
      go_ret
      exact ⟨_, rfl, by rw [HR.out]; exact ⟨A2, c2, rfl, HR2.out.ch ((Ch.refl no _).drewN _)⟩, (Ch.refl no _).drewN _⟩
end Go.Proofs.Ytlmcbmgdhpoedaa.Fe
