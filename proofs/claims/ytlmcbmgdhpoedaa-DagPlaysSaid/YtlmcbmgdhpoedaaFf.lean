/- The document's graph: what it lacks: walked. -/
import Derived.Test.YtlmcbmgdhpoedaaFe
namespace Go.Proofs.Ytlmcbmgdhpoedaa.Ff
open Go Go.RowKit Go.Proofs.Ytlmcbmgdhpoedaa.Aa Go.Proofs.Ytlmcbmgdhpoedaa.Vw Go.Proofs.Ytlmcbmgdhpoedaa.Da Go.Proofs.Ytlmcbmgdhpoedaa.Db Go.Proofs.Ytlmcbmgdhpoedaa.De Go.Proofs.Ytlmcbmgdhpoedaa.Di Go.Proofs.Ytlmcbmgdhpoedaa.Ds Go.Proofs.Ytlmcbmgdhpoedaa.Du Go.Proofs.Ytlmcbmgdhpoedaa.Fa Go.Proofs.Ytlmcbmgdhpoedaa.Fb Go.Proofs.Ytlmcbmgdhpoedaa.Fc Go.Proofs.Ytlmcbmgdhpoedaa.Fd Go.Proofs.Ytlmcbmgdhpoedaa.Fe
set_option linter.unusedVariables false
set_option linter.unusedSimpArgs false

/-- What is not known, put, one by one. -/
def rlackP (L : List Nd) (acc ps : List Nm) : List Nm := ps.foldl (fun a p => if findN L p < 0 then putR a p else a) acc
def rlackN (L : List Nd) (acc : List Nm) (n : Nd) : List Nm := if n.inn then acc else rlackP L acc n.par
def rlackL (L : List Nd) (acc : List Nm) (ns : List Nd) : List Nm := ns.foldl (rlackN L) acc
theorem rlackP_next (L : List Nd) (acc ps : List Nm) (k : Nat) (hk : k < ps.length) : rlackP L acc (ps.take (k + 1)) = if findN L ps[k] < 0 then putR (rlackP L acc (ps.take k)) ps[k] else rlackP L acc (ps.take k) := by
  unfold rlackP
  rw [List.take_succ_eq_append_getElem hk, List.foldl_append]
  rfl
theorem rlackL_next (L : List Nd) (acc : List Nm) (ns : List Nd) (k : Nat) (hk : k < ns.length) : rlackL L acc (ns.take (k + 1)) = rlackN L (rlackL L acc (ns.take k)) ns[k] := by
  unfold rlackL
  rw [List.take_succ_eq_append_getElem hk, List.foldl_append]
  rfl
theorem mem_rlackP {L : List Nd} {z : Nm} (ps : List Nm) : ∀ acc, z ∈ rlackP L acc ps ↔ (z ∈ acc ∨ (z ∈ ps ∧ findN L z < 0)) := by
  induction ps with
  | nil => intro acc; simp [rlackP]
  | cons p r ih =>
    intro acc
    show z ∈ rlackP L (if findN L p < 0 then putR acc p else acc) r ↔ _
    rw [ih, List.mem_cons]
    split
    · rename_i hp
      rw [mem_putR]
      constructor
      · rintro ((rfl | h) | h)
        · exact .inr ⟨.inl rfl, hp⟩
        · exact .inl h
        · exact .inr ⟨.inr h.1, h.2⟩
      · rintro (h | ⟨rfl | h, h2⟩)
        · exact .inl (.inr h)
        · exact .inl (.inl rfl)
        · exact .inr ⟨h, h2⟩
    · rename_i hp
      constructor
      · rintro (h | h)
        · exact .inl h
        · exact .inr ⟨.inr h.1, h.2⟩
      · rintro (h | ⟨rfl | h, h2⟩)
        · exact .inl h
        · exact absurd h2 hp
        · exact .inr ⟨h, h2⟩
theorem mem_rlackL {L : List Nd} {z : Nm} (ns : List Nd) : ∀ acc, z ∈ rlackL L acc ns ↔ (z ∈ acc ∨ ∃ n ∈ ns, n.inn = false ∧ z ∈ n.par ∧ findN L z < 0) := by
  induction ns with
  | nil => intro acc; simp [rlackL]
  | cons n r ih =>
    intro acc
    show z ∈ rlackL L (rlackN L acc n) r ↔ _
    rw [ih]
    unfold rlackN
    cases hi : n.inn with
    | true =>
      simp only [if_true, List.mem_cons]
      constructor
      · rintro (h | ⟨m, h1, h2⟩)
        · exact .inl h
        · exact .inr ⟨m, .inr h1, h2⟩
      · rintro (h | ⟨m, rfl | h1, h2⟩)
        · exact .inl h
        · rw [hi] at h2; cases h2.1
        · exact .inr ⟨m, h1, h2⟩
    | false =>
      simp only [Bool.false_eq_true, if_false, List.mem_cons]
      rw [mem_rlackP]
      constructor
      · rintro ((h | h) | ⟨m, h1, h2⟩)
        · exact .inl h
        · exact .inr ⟨n, .inl rfl, hi, h⟩
        · exact .inr ⟨m, .inr h1, h2⟩
      · rintro (h | ⟨m, rfl | h1, h2⟩)
        · exact .inl (.inl h)
        · exact .inl (.inr h2.2)
        · exact .inr ⟨m, h1, h2⟩
theorem rlackP_ss {L : List Nd} (ps : List Nm) : ∀ acc, SS acc → SS (rlackP L acc ps) := by
  induction ps with
  | nil => exact fun acc h => h
  | cons p r ih =>
    intro acc h
    show SS (rlackP L (if findN L p < 0 then putR acc p else acc) r)
    refine ih _ ?_
    split
    · exact putR_ss h
    · exact h
theorem rlackL_ss {L : List Nd} (ns : List Nd) : ∀ acc, SS acc → SS (rlackL L acc ns) := by
  induction ns with
  | nil => exact fun acc h => h
  | cons n r ih =>
    intro acc h
    show SS (rlackL L (rlackN L acc n) r)
    refine ih _ ?_
    unfold rlackN
    split
    · exact h
    · exact rlackP_ss _ _ h
theorem rlackP_len {L : List Nd} (ps : List Nm) : ∀ acc, (rlackP L acc ps).length ≤ acc.length + ps.length := by
  induction ps with
  | nil => intro acc; simp [rlackP]
  | cons p r ih =>
    intro acc
    have h1 := ih (if findN L p < 0 then putR acc p else acc)
    have h2 := putR_len acc p
    show (rlackP L (if findN L p < 0 then putR acc p else acc) r).length ≤ _
    simp only [List.length_cons]
    split at h1 <;> rename_i hp
    · rw [if_pos hp]; omega
    · rw [if_neg hp]; omega
theorem rlackL_len {L : List Nd} (ns : List Nd) (hp : ∀ n ∈ ns, n.par.length ≤ 6) : ∀ acc, (rlackL L acc ns).length ≤ acc.length + 6 * ns.length := by
  induction ns with
  | nil => intro acc; simp [rlackL]
  | cons n r ih =>
    intro acc
    have h1 := ih (fun m hm => hp m (List.mem_cons_of_mem _ hm)) (rlackN L acc n)
    have h2 := rlackP_len (L := L) n.par acc
    have h3 := hp n (List.mem_cons_self ..)
    have h4 : (rlackN L acc n).length ≤ acc.length + 6 := by
      unfold rlackN
      split <;> omega
    show (rlackL L (rlackN L acc n) r).length ≤ _
    simp only [List.length_cons]
    omega
def rlacks (L : List Nd) : List Nm := rlackL L [] L
set_option maxRecDepth 100000 in
set_option maxHeartbeats 8000000 in
theorem rlacks_of (R : Nat) (L : List Nd) (w : World) (h : RefV w R L) (hs : Sm L) :
    Calls Try.prog 23 #[rptr R] w fun e w' => ∃ v, e = .returned v ∧ OwnS w' w.heap.size v (rlacks L) ∧ Ch no w w' := by
  obtain ⟨A, c, hb, hr⟩ := h.ex
  have hlx := hr.len
  have HV := Lib.hid h; have HB := Lib.hid hb; have HX := Lib.hid hr; have HS := Lib.hid hs
  have HO0 : Hid (OwnS w w.heap.size (.slice none 0 0) (rlackL L [] (L.take 0))) := Lib.hid ⟨by simp [rlackL], .inl ⟨rfl, by simp [rlackL]⟩⟩
  clear hb hr h hs
  go_enter Try.func23, Try.ntmps23
  go_wp2_with fail
  go_loopw [3, 4] (fun o i wr => ∃ k : Nat, k ≤ L.length ∧ i = .int .i64 k ∧ Hid (OwnS wr w.heap.size o (rlackL L [] (L.take k))) ∧ Hid (Ch no w wr)) (fun _ i _ => L.length - (intOf i).toNat)
  case atStart => exact ⟨0, by omega, rfl, HO0, Lib.hid (Ch.refl _ _)⟩
  case round =>
    clear HO0
    obtain ⟨k, hk, rfl, HO, HC⟩ := hrel
    have hc0 := (bCell (HC.out.blk HB.out (no_not _)) 0).trans rfl
    by_cases hlt : k < L.length
    · have HG := Lib.hid (rlackL_next L [] L k hlt)
      have HAL : Hid ((rlackL L [] (L.take k)).length ≤ 78 ∧ (∀ y ∈ rlackL L [] (L.take k), y.size ≤ 40) ∧ L[k].par.length ≤ 6 ∧ ∀ p ∈ L[k].par, p.size ≤ 40) := Lib.hid (by
        have hs := HS.out
        refine ⟨?_, fun y hy => ?_, hs.pl _ (List.getElem_mem _), hs.pz _ (List.getElem_mem _)⟩
        · have h1 := rlackL_len (L := L) (L.take k) (fun n hn => hs.pl n (List.mem_of_mem_take hn)) []
          have h2 := hs.len
          simp only [List.length_nil, List.length_take] at h1
          omega
        · rcases (mem_rlackL (L.take k) []).1 hy with h | ⟨n, hn, _, hp, _⟩
          · simp at h
          · exact hs.pz n (List.mem_of_mem_take hn) y hp)
      obtain ⟨acc, hacc⟩ : ∃ acc, rlackL L [] (L.take k) = acc := ⟨_, rfl⟩
      rw [hacc] at HO HG HAL
      clear hacc
      obtain ⟨ad, A2, c2, rfl, p0, p1, hr2⟩ := nd_at (HX.out.ch HC.out) k hlt
      obtain ⟨ad', had, p2⟩ := nd_at3 (HX.out.ch HC.out) k hlt
      cases had
      have hlp := hr2.len
      obtain ⟨n, hn⟩ : ∃ n, L[k] = n := ⟨_, rfl⟩
      rw [hn] at p0 p1 p2 hr2 hlp HG HAL
      clear hn
      obtain ⟨id, q, b⟩ := n
      have HR2 := Lib.hid hr2
      simp only at p0 p1 p2 HR2 hlp HG HAL
      clear hr2
      cases b with
      | true =>
        have HGR : Hid (rlackL L [] (L.take (k + 1)) = acc) := Lib.hid (by rw [HG.out]; unfold rlackN; simp)
        clear HG HAL
        obtain ⟨A0, c0, ho0⟩ := own_shape HO.out
        subst ho0
        go_wp2_with fail
        go_loopw [3, 5] (fun o j wz => o = .slice A0 acc.length c0 ∧ j = .int .i64 (0 : Nat) ∧ wr = wz) (fun _ _ _ => 0)
        case atStart => exact ⟨rfl, rfl, rfl⟩
        case round =>
          obtain ⟨rfl, rfl, rfl⟩ := hrel
          by_cases h0 : (0 : Int) < (q.length : Int)
          · go_wp2_with fail
            go_roundw
            case rel => exact ⟨k + 1, by omega, by go_num, Lib.hid (by rw [HGR.out]; exact HO.out), HC⟩
            case measure => simp [intOf]; omega
          · go_wp2_with fail
            go_roundw
            case rel => exact ⟨k + 1, by omega, by go_num, Lib.hid (by rw [HGR.out]; exact HO.out), HC⟩
            case measure => simp [intOf]; omega
      | false =>
        have HGR : Hid (rlackL L [] (L.take (k + 1)) = rlackP L acc q) := Lib.hid (by rw [HG.out]; unfold rlackN; simp)
        obtain ⟨A0, c0, ho0⟩ := own_shape HO.out
        subst ho0
        have HO0 : Hid (OwnS wr w.heap.size (.slice A0 acc.length c0) (rlackP L acc (q.take 0))) := Lib.hid (by simpa [rlackP] using HO.out)
        clear HG
        go_wp2_with fail
        go_loopw [3, 5] (fun o j wz => ∃ m : Nat, m ≤ q.length ∧ j = .int .i64 m ∧ Hid (OwnS wz w.heap.size o (rlackP L acc (q.take m))) ∧ Hid (Ch no wr wz)) (fun _ j _ => q.length - (intOf j).toNat)
        case atStart => exact ⟨0, by omega, rfl, HO0, Lib.hid (Ch.refl _ _)⟩
        case round =>
          clear HO0
          obtain ⟨m, hm, rfl, HM, HZ⟩ := hrel
          have HC2 := Lib.hid (HC.out.then_ HZ.out)
          replace p0 := cell_ch HZ.out p0
          replace p1 := cell_ch HZ.out p1
          replace p2 := cell_ch HZ.out p2
          replace hc0 := (bCell (HC2.out.blk HB.out (no_not _)) 0).trans rfl
          by_cases hlm : m < q.length
          · obtain ⟨a2, rfl, p3⟩ := (HR2.out.ch HZ.out).flat_at m hlm
            have hf := find_of R L q[m] wr (HV.out.ch HC2.out)
            have HGP := Lib.hid (rlackP_next L acc q m hlm)
            have HPL : Hid ((rlackP L acc (q.take m)).length ≤ 1000 ∧ (∀ y ∈ rlackP L acc (q.take m), y.size ≤ 1000) ∧ q[m].size ≤ 1000) := Lib.hid (by
              obtain ⟨a1, a2, a3, a4⟩ := HAL.out
              refine ⟨?_, fun y hy => ?_, ?_⟩
              · have h1 := rlackP_len (L := L) (q.take m) acc
                rw [List.length_take] at h1
                omega
              · rcases (mem_rlackP (q.take m) acc).1 hy with h | ⟨h, _⟩
                · have := a2 y h; omega
                · have := a4 y (List.mem_of_mem_take h); omega
              · have := a4 _ (List.getElem_mem hlm); omega)
            obtain ⟨y, hy⟩ : ∃ y, q[m] = y := ⟨_, rfl⟩
            replace p3 : wr.cell? (a2.add m) = some (.string y) := p3.trans (congrArg (fun z => some (Value.string z)) hy)
            rw [hy] at hf HGP HPL
            clear hy
            obtain ⟨cur, hcur⟩ : ∃ cur, rlackP L acc (q.take m) = cur := ⟨_, rfl⟩
            rw [hcur] at HM HGP HPL
            clear hcur
            obtain ⟨A1, c1, ho1⟩ := own_shape HM.out
            subst ho1
            obtain ⟨f, hfe⟩ : ∃ f, findN L y = f := ⟨_, rfl⟩
            rw [hfe] at hf HGP
            clear hfe
            by_cases hneg : f < 0
            · have hput := put_of A1 c1 cur y wr (row_of_own HM.out) HPL.out.1 HPL.out.2.1 HPL.out.2.2
              have HGQ : Hid (rlackP L acc (q.take (m + 1)) = putR cur y) := Lib.hid (by rw [HGP.out, if_pos hneg])
              clear HGP HPL
              go_wp2_with fail
              refine hf.mono ?_
              rintro e w' ⟨rfl, hw⟩
              subst hw
              clear hf
              go_wp2_with fail
              refine hput.mono ?_
              rintro e w5 ⟨v5, rfl, ho5, hc5⟩
              have HO5 : Hid (OwnS w5 w.heap.size v5 (putR cur y)) := Lib.hid (own_less ho5 HC2.out.size)
              have HC5 := Lib.hid (HZ.out.then_ hc5)
              clear ho5 hc5 hput
              go_wp2_with fail
              go_roundw
              case rel => exact ⟨m + 1, by omega, by go_num, Lib.hid (by rw [HGQ.out]; exact HO5.out), HC5⟩
              case measure => simp [intOf]; omega
            · have HGQ : Hid (rlackP L acc (q.take (m + 1)) = cur) := Lib.hid (by rw [HGP.out, if_neg hneg])
              clear HGP HPL
              go_wp2_with fail
              refine hf.mono ?_
              rintro e w' ⟨rfl, hw⟩
              subst hw
              clear hf
              go_wp2_with fail
              go_roundw
              case rel => exact ⟨m + 1, by omega, by go_num, Lib.hid (by rw [HGQ.out]; exact HM.out), HZ⟩
              case measure => simp [intOf]; omega
          · have HT : Hid (q.take m = q) := Lib.hid (by rw [List.take_of_length_le (by omega)])
            have h1 := HM.out
            rw [HT.out] at h1
            have HM1 := Lib.hid h1
            clear h1 HM
            go_wp2_with fail
            go_roundw
            case rel => exact ⟨k + 1, by omega, by go_num, Lib.hid (by rw [HGR.out]; exact HM1.out), HC2⟩
            case measure => simp [intOf]; omega
    · have HT : Hid (L.take k = L) := Lib.hid (by rw [List.take_of_length_le (by omega)])
      have h1 := HO.out
      rw [HT.out] at h1
      have HO1 := Lib.hid h1
      clear h1
      go_wp2_with fail
      go_ret
      exact ⟨_, rfl, HO1.out, HC.out⟩
end Go.Proofs.Ytlmcbmgdhpoedaa.Ff
