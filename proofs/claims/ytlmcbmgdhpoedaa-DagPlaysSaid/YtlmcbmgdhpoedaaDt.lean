/- Nodes are added to a new graph: walked. -/
import Derived.Test.YtlmcbmgdhpoedaaDs
namespace Go.Proofs.Ytlmcbmgdhpoedaa.Dt
open Go Go.RowKit Go.Proofs.Ytlmcbmgdhpoedaa.Aa Go.Proofs.Ytlmcbmgdhpoedaa.Vw Go.Proofs.Ytlmcbmgdhpoedaa.Mp Go.Proofs.Ytlmcbmgdhpoedaa.Mr Go.Proofs.Ytlmcbmgdhpoedaa.Mt Go.Proofs.Ytlmcbmgdhpoedaa.Da Go.Proofs.Ytlmcbmgdhpoedaa.Db Go.Proofs.Ytlmcbmgdhpoedaa.Dc Go.Proofs.Ytlmcbmgdhpoedaa.Di Go.Proofs.Ytlmcbmgdhpoedaa.Ds
set_option linter.unusedVariables false
set_option linter.unusedSimpArgs false

/-- The nodes as what is added. -/
def pairs (l : List Nd) : List (Nm × List Nm) := l.map fun x => (x.id, x.par)
def graph (l : List Nd) : Gr := addAll Gr.new (pairs l)
theorem graph_next (l : List Nd) (k : Nat) (hk : k < l.length) : graph (l.take (k + 1)) = ((graph (l.take k)).add l[k].id l[k].par).1 := by
  unfold graph pairs addAll
  rw [List.take_succ_eq_append_getElem hk, List.map_append, List.foldl_append]
  rfl
theorem okN_all {l : List Nd} (h : few l = true) (k : Nat) (hk : k < l.length) : l[k].id.size ≤ 40 ∧ l[k].par.length ≤ 6 ∧ ∀ p ∈ l[k].par, p.size ≤ 40 := by
  unfold few at h
  rw [Bool.and_eq_true] at h
  have h1 := List.all_eq_true.1 h.1 l[k] (List.getElem_mem _)
  unfold okN at h1
  simp only [Bool.and_eq_true, decide_eq_true_eq, List.all_eq_true] at h1
  exact ⟨h1.1.1, h1.1.2, h1.2⟩
theorem few_len {l : List Nd} (h : few l = true) : l.length ≤ 14 := by
  unfold few at h
  rw [Bool.and_eq_true] at h
  exact of_decide_eq_true h.2
theorem graph_fine {l : List Nd} (h : few l = true) : ∀ k, k ≤ l.length → Fine (graph (l.take k)) k := by
  intro k
  induction k with
  | zero => intro _; exact Fine.new
  | succ k ih =>
    intro hk
    rw [graph_next l k (by omega)]
    obtain ⟨h1, h2, h3⟩ := okN_all h k (by omega)
    exact (ih (by omega)).add (by omega) (by omega) (fun p hp => by have := h3 p hp; omega)
/-- Between two rounds. -/
structure AD (w wr : World) (B : Nat) (l : List Nd) (k : Nat) : Prop where
  dag : DagV wr B (graph (l.take k))
  ch : Ch no w wr
set_option maxRecDepth 100000 in
set_option maxHeartbeats 4000000 in
theorem added_of (A : Option Addr) (c : Nat) (l : List Nd) (w : World) (h : nd.Row w A c l) (hf : few l = true) :
    Calls Try.prog 10 #[.slice A l.length c] w fun e w' => ∃ B, e = .returned (ptr B) ∧ DagV w' B (graph l) ∧ Ch no w w' ∧ w.heap.size ≤ B := by
  have hlx := h.len
  have HX := Lib.hid h; have HF := Lib.hid hf; have HLL := Lib.hid (few_len hf); clear h hf
  go_enter Try.func10, Try.ntmps10
  go_wp2_with fail
  refine (new_of w).mono ?_
  rintro e w1 ⟨rfl, hd, hc⟩
  have HI : Hid (AD w w1 w.heap.size l 0) := Lib.hid ⟨hd, hc⟩
  obtain ⟨B, hB⟩ : ∃ B, w.heap.size = B := ⟨_, rfl⟩
  rw [hB] at HI ⊢
  have HB := Lib.hid hB
  clear hd hc hB
  go_wp2_with fail
  go_loopw [4] (fun i wr => ∃ k : Nat, k ≤ l.length ∧ i = .int .i64 k ∧ Hid (AD w wr B l k)) (fun i _ => l.length - (intOf i).toNat)
  case atStart => exact ⟨0, by omega, rfl, HI⟩
  case round =>
    clear HI
    obtain ⟨k, hk, rfl, HI⟩ := hrel
    by_cases hlt : k < l.length
    · have HRW := Lib.hid (HX.out.ch HI.out.ch)
      obtain ⟨ad, A2, c2, rfl, p0', p1', hr2⟩ := nd_at HRW.out k hlt
      have hok := okN_all HF.out k hlt
      have HOK := Lib.hid hok
      have HGN := Lib.hid (graph_next l k hlt)
      have HFI := Lib.hid (graph_fine HF.out k (by omega))
      have p0 := cell_ch ((Ch.refl no wr).drew) p0'
      have p1 := cell_ch ((Ch.refl no wr).drew) p1'
      have HR2 := Lib.hid (hr2.ch ((Ch.refl no wr).drew))
      have HDD : Hid (DagV wr.drew B (graph (l.take k))) := Lib.hid (HI.out.dag.ch ((Ch.refl no wr).drew))
      obtain ⟨x, hx⟩ : ∃ x, l[k] = x := ⟨_, rfl⟩
      rw [hx] at p0 p1 HR2 HGN HOK
      clear hx hr2 p0' p1' hok
      obtain ⟨d, hd⟩ : ∃ d, graph (l.take k) = d := ⟨_, rfl⟩
      rw [hd] at HGN HFI HDD
      have hkl : k < 1000 := by have := HLL.out; omega
      clear hd
      go_upto_region 7 with (fail)
      refine wp_region_tail (G := gds [Gd.is ?r7v0, Gd.is ?r7v1, Gd.is ?r7v2, Gd.is ?r7v3, Gd.is ?r7v4, Gd.is ?r7v5, Gd.is ?r7v6, Gd.is ?r7v7, Gd.is ?r7v8, Gd.is ?r7v9, Gd.is ?r7v10]) 11 (by kernel_rfl) (by kernel_rfl) rfl (by kernel_rfl) gds_st ?obl7 ?fin7
      case obl7 =>
        simp only [Obls, and_true, List.take_succ_cons, List.take_zero]
        refine ⟨?_, ?_, ?_, ?_, ?_, ?_, ?_, ?_, ?_, ?_, ?_⟩
        · intro vs W hW hd
          simp only [fill, List.setIfInBounds_toArray, List.set_cons_zero, List.set_cons_succ]
          clear hd
          go_wp2_with (fail)
          refine ⟨rfl, rfl, Ch.refl _ _, gds_is rfl ?_⟩
          (conv => lhs; whnf)
        · intro vs W hW hd
          simp only [fill, List.setIfInBounds_toArray, List.set_cons_zero, List.set_cons_succ]
          clear hd
          go_wp2_with (fail)
          refine ⟨rfl, rfl, Ch.refl _ _, gds_is rfl ?_⟩
          (conv => lhs; whnf)
        · intro vs W hW hd
          simp only [fill, List.setIfInBounds_toArray, List.set_cons_zero, List.set_cons_succ]
          clear hd
          go_wp2_with (fail)
          refine ⟨rfl, rfl, Ch.refl _ _, gds_is rfl ?_⟩
          (conv => lhs; whnf)
        · intro vs W hW hd
          simp only [fill, List.setIfInBounds_toArray, List.set_cons_zero, List.set_cons_succ]
          have d1 := gds_at rfl (hd ⟨1, .data⟩ (by simp) rfl)
          have d2 := gds_at rfl (hd ⟨2, .data⟩ (by simp) rfl)
          rw [d1, d2]
          clear hd d1 d2
          go_wp2_with (fail)
          refine ⟨rfl, rfl, Ch.refl _ _, gds_is rfl ?_⟩
          (conv => lhs; whnf)
        · intro vs W hW hd
          simp only [fill, List.setIfInBounds_toArray, List.set_cons_zero, List.set_cons_succ]
          have d3 := gds_at rfl (hd ⟨3, .data⟩ (by simp) rfl)
          rw [d3]
          clear hd d3
          go_wp2_with (fail)
          refine ⟨rfl, rfl, Ch.refl _ _, gds_is rfl ?_⟩
          (conv => lhs; whnf)
        · intro vs W hW hd
          simp only [fill, List.setIfInBounds_toArray, List.set_cons_zero, List.set_cons_succ]
          have d4 := gds_at rfl (hd ⟨4, .data⟩ (by simp) rfl)
          rw [d4]
          clear hd d4
          have q0 := cell_ch hW p0
          have q1 := cell_ch hW p1
          go_wp2_with (fail)
          refine ⟨rfl, rfl, Ch.refl _ _, gds_is rfl ?_⟩
          (conv => lhs; whnf)
        · intro vs W hW hd
          simp only [fill, List.setIfInBounds_toArray, List.set_cons_zero, List.set_cons_succ]
          clear hd
          go_wp2_with (fail)
          refine ⟨rfl, rfl, Ch.refl _ _, gds_is rfl ?_⟩
          (conv => lhs; whnf)
        · intro vs W hW hd
          simp only [fill, List.setIfInBounds_toArray, List.set_cons_zero, List.set_cons_succ]
          clear hd
          go_wp2_with (fail)
          refine ⟨rfl, rfl, Ch.refl _ _, gds_is rfl ?_⟩
          (conv => lhs; whnf)
        · intro vs W hW hd
          simp only [fill, List.setIfInBounds_toArray, List.set_cons_zero, List.set_cons_succ]
          have d6 := gds_at rfl (hd ⟨6, .data⟩ (by simp) rfl)
          have d7 := gds_at rfl (hd ⟨7, .data⟩ (by simp) rfl)
          rw [d6, d7]
          clear hd d6 d7
          go_wp2_with (fail)
          refine ⟨rfl, rfl, Ch.refl _ _, gds_is rfl ?_⟩
          (conv => lhs; whnf)
        · intro vs W hW hd
          simp only [fill, List.setIfInBounds_toArray, List.set_cons_zero, List.set_cons_succ]
          have d8 := gds_at rfl (hd ⟨8, .data⟩ (by simp) rfl)
          rw [d8]
          clear hd d8
          go_wp2_with (fail)
          refine ⟨rfl, rfl, Ch.refl _ _, gds_is rfl ?_⟩
          (conv => lhs; whnf)
        · intro vs W hW hd
          simp only [fill, List.setIfInBounds_toArray, List.set_cons_zero, List.set_cons_succ]
          have d9 := gds_at rfl (hd ⟨9, .data⟩ (by simp) rfl)
          rw [d9]
          clear hd d9
          have q0 := cell_ch hW p0
          have q1 := cell_ch hW p1
          go_wp2_with (fail)
          refine ⟨rfl, rfl, Ch.refl _ _, gds_is rfl ?_⟩
          (conv => lhs; whnf)
      case fin7 =>
        intro vs W hW hd
        simp only [fill, List.setIfInBounds_toArray, List.set_cons_zero, List.set_cons_succ, List.take_succ_cons, List.take_zero, List.drop_succ_cons, List.drop_zero]
        have d0 := gds_at rfl (hd 0 (by omega))
        have d1 := gds_at rfl (hd 1 (by omega))
        have d2 := gds_at rfl (hd 2 (by omega))
        have d3 := gds_at rfl (hd 3 (by omega))
        have d4 := gds_at rfl (hd 4 (by omega))
        have d5 := gds_at rfl (hd 5 (by omega))
        have d6 := gds_at rfl (hd 6 (by omega))
        have d7 := gds_at rfl (hd 7 (by omega))
        have d8 := gds_at rfl (hd 8 (by omega))
        have d9 := gds_at rfl (hd 9 (by omega))
        have d10 := gds_at rfl (hd 10 (by omega))
        rw [d0, d1, d2, d3, d4, d5, d6, d7, d8, d9, d10]
        clear hd d0 d1 d2 d3 d4 d5 d6 d7 d8 d9 d10
        go_wp2_with (refine (add_of B d k x.id (.slice A2 x.par.length c2) x.par W (HDD.out.ch hW) ⟨A2, c2, rfl, HR2.out.ch hW⟩ HFI.out hkl (by have := HOK.out.1; omega) (by have := HOK.out.2.1; omega) (fun p hp => by have := HOK.out.2.2 p hp; omega)).mono ?_; rintro e w3 ⟨r, rfl, hv3, hd3, hc3⟩; have HD3 := Lib.hid hd3; have HC3 := Lib.hid hc3; clear hv3 hd3 hc3)
        go_roundw
        case rel =>
          refine ⟨k + 1, by omega, by go_num, Lib.hid ⟨by rw [HGN.out]; exact HD3.out, ?_⟩⟩
          have hsz := HB.out
          exact ((HI.out.ch.then_ ((Ch.refl no wr).drew)).then_ hW).trans HC3.out (fun i hi h => by rcases h with h | h | h <;> omega)
        case measure => simp [intOf]; omega
    · have HT : Hid (l.take k = l) := Lib.hid (by rw [List.take_of_length_le (by omega)])
      go_wp2_with fail
      go_ret
      have h1 := HI.out.dag
      rw [HT.out] at h1
      exact ⟨B, rfl, h1, HI.out.ch, by have := HB.out; omega⟩
end Go.Proofs.Ytlmcbmgdhpoedaa.Dt
