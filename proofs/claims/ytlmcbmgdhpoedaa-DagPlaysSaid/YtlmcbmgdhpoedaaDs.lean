/- Nodes that come in: how a row of them lies; whether they are few. -/
import Derived.Test.YtlmcbmgdhpoedaaDr
namespace Go.Proofs.Ytlmcbmgdhpoedaa.Ds
open Go Go.RowKit Go.Proofs.Ytlmcbmgdhpoedaa.Aa Go.Proofs.Ytlmcbmgdhpoedaa.Vw Go.Proofs.Ytlmcbmgdhpoedaa.Mp Go.Proofs.Ytlmcbmgdhpoedaa.Da Go.Proofs.Ytlmcbmgdhpoedaa.Db Go.Proofs.Ytlmcbmgdhpoedaa.Dc
set_option linter.unusedVariables false
set_option linter.unusedSimpArgs false

/-- A node: an id, its parents, whether it is in. -/
structure Nd where
  id : Nm
  par : List Nm
  inn : Bool
def nd : El Nd where
  sz := 3
  R w x cs := ∃ A c, cs = [.string x.id, .slice A x.par.length c, .bool x.inn] ∧ El.str.Row w A c x.par
  len := by rintro w x cs ⟨A, c, rfl, _⟩; rfl
  ch := by rintro w w' x cs ⟨A, c, rfl, h⟩ hc; exact ⟨A, c, rfl, h.ch hc⟩
theorem nd_at {w : World} {A : Option Addr} {cap : Nat} {t : List Nd} (h : nd.Row w A cap t) (k : Nat) (hk : k < t.length) :
    ∃ ad A2 c2, A = some ad ∧ w.cell? (ad.add (k * 3)) = some (.string t[k].id) ∧ w.cell? ⟨(ad.add (k * 3)).block, (ad.add (k * 3)).off + 1, none⟩ = some (.slice A2 t[k].par.length c2) ∧ El.str.Row w A2 c2 t[k].par := by
  obtain ⟨ad, cs, rfl, ⟨A2, c2, rfl, hr⟩, h3⟩ := h.at_ k hk
  have h0 := h3 0 _ rfl
  have h1 := h3 1 _ rfl
  have hz : nd.sz = 3 := rfl
  rw [hz] at h0 h1
  refine ⟨ad, A2, c2, rfl, by simpa using h0, ?_, hr⟩
  rw [← add_field ad (k * 3) 1 (by omega)]
  exact h1
/-- Small enough. -/
def okN (x : Nd) : Bool := decide (x.id.size ≤ 40) && decide (x.par.length ≤ 6) && x.par.all (fun p => decide (p.size ≤ 40))
def few (l : List Nd) : Bool := l.all okN && decide (l.length ≤ 14)
theorem pall_next (l : List Nm) (k : Nat) (hk : k < l.length) (h : (l.take k).all (fun p => decide (p.size ≤ 40)) = true) (hz : l[k].size ≤ 40) : (l.take (k + 1)).all (fun p => decide (p.size ≤ 40)) = true := by
  rw [List.take_succ_eq_append_getElem hk, List.all_append, h]
  simp [hz]
theorem nall_next (l : List Nd) (k : Nat) (hk : k < l.length) (h : (l.take k).all okN = true) (hz : okN l[k] = true) : (l.take (k + 1)).all okN = true := by
  rw [List.take_succ_eq_append_getElem hk, List.all_append, h]
  simp [hz]
theorem few_no {l : List Nd} {k : Nat} (hk : k < l.length) (h : okN l[k] = false) : few l = false := by
  unfold few
  rw [Bool.and_eq_false_iff]
  left
  rw [List.all_eq_false]
  exact ⟨l[k], List.getElem_mem _, by rw [h]; simp⟩
set_option maxRecDepth 100000 in
set_option maxHeartbeats 4000000 in
theorem few_of (A : Option Addr) (c : Nat) (l : List Nd) (w : World) (h : nd.Row w A c l) :
    Calls Try.prog 9 #[.slice A l.length c] w fun e w' => e = .returned (.bool (few l)) ∧ w = w' := by
  have hlx := h.len
  have HX := Lib.hid h; clear h
  go_enter Try.func9, Try.ntmps9
  go_wp2_with fail
  go_loopw [3] (fun i wr => ∃ k : Nat, k ≤ l.length ∧ i = .int .i64 k ∧ Hid ((l.take k).all okN = true) ∧ w = wr) (fun i _ => l.length - (intOf i).toNat)
  case atStart => exact ⟨0, by omega, rfl, Lib.hid rfl, rfl⟩
  case round =>
    obtain ⟨k, hk, rfl, HE, rfl⟩ := hrel
    by_cases hlt : k < l.length
    · obtain ⟨ad, A2, c2, rfl, q0, q1, hr2⟩ := nd_at HX.out k hlt
      have hlp := hr2.len
      have HR2 := Lib.hid hr2; clear hr2
      have HNO : Hid (okN l[k] = false → few l = false) := Lib.hid (few_no hlt)
      have HYES : Hid (okN l[k] = true → (l.take (k + 1)).all okN = true) := Lib.hid (nall_next l k hlt HE.out)
      obtain ⟨x, hx⟩ : ∃ x, l[k] = x := ⟨_, rfl⟩
      rw [hx] at q0 q1 hlp HR2 HNO HYES
      clear hx
      by_cases h1 : x.id.size ≤ 40
      · by_cases h2 : x.par.length ≤ 6
        · have g1 : ¬ (40 < (x.id.size : Int)) := by omega
          have g2 : ¬ (6 < (x.par.length : Int)) := by omega
          have H1 := Lib.hid h1; have H2 := Lib.hid h2
          clear h1 h2
          go_wp2_with fail
          go_loopw [4] (fun j wz => ∃ m : Nat, m ≤ x.par.length ∧ j = .int .i64 m ∧ Hid ((x.par.take m).all (fun p => decide (p.size ≤ 40)) = true) ∧ w = wz) (fun j _ => x.par.length - (intOf j).toNat)
          case atStart => exact ⟨0, by omega, rfl, Lib.hid rfl, rfl⟩
          case round =>
            obtain ⟨m, hm, rfl, HM, rfl⟩ := hrel
            by_cases hlm : m < x.par.length
            · obtain ⟨a2, rfl, hca⟩ := HR2.out.flat_at m hlm
              by_cases h3 : x.par[m].size ≤ 40
              · have HM2 := Lib.hid (pall_next x.par m hlm HM.out h3)
                have g3 : ¬ (40 < (x.par[m].size : Int)) := by omega
                clear h3
                go_wp2_with fail
                go_roundw
                case rel => exact ⟨m + 1, by omega, by go_num, HM2, trivial⟩
                case measure => simp [intOf]; omega
              · have HF : Hid (few l = false) := Lib.hid (HNO.out (by
                  unfold okN
                  have : x.par.all (fun p => decide (p.size ≤ 40)) = false := by
                    rw [List.all_eq_false]
                    exact ⟨x.par[m], List.getElem_mem _, by simpa using h3⟩
                  rw [this]; simp))
                have g3 : (40 < (x.par[m].size : Int)) := by omega
                clear h3
                go_wp2_with fail
                go_ret
                exact ⟨by rw [HF.out]; rfl, rfl⟩
            · have HT : Hid ((l.take (k + 1)).all okN = true) := Lib.hid (HYES.out (by
                unfold okN
                have h4 := HM.out
                rw [List.take_of_length_le (by omega)] at h4
                rw [h4, decide_eq_true H1.out, decide_eq_true H2.out]; rfl))
              go_wp2_with fail
              go_roundw
              case rel => exact ⟨k + 1, by omega, by go_num, HT, trivial⟩
              case measure => simp [intOf]; omega
        · have HF : Hid (few l = false) := Lib.hid (HNO.out (by unfold okN; rw [decide_eq_false h2]; simp))
          have g1 : ¬ (40 < (x.id.size : Int)) := by omega
          have g2 : (6 < (x.par.length : Int)) := by omega
          clear h1 h2
          go_wp2_with fail
          go_ret
          exact ⟨by rw [HF.out]; rfl, rfl⟩
      · have HF : Hid (few l = false) := Lib.hid (HNO.out (by unfold okN; rw [decide_eq_false h1]; rfl))
        have g1 : (40 < (x.id.size : Int)) := by omega
        clear h1
        go_wp2_with fail
        go_ret
        exact ⟨by rw [HF.out]; rfl, rfl⟩
    · have HT : Hid (l.all okN = true) := Lib.hid (by
        have h4 := HE.out
        rwa [List.take_of_length_le (by omega)] at h4)
      have HF : Hid (few l = decide ((l.length : Int) ≤ 14)) := Lib.hid (by
        unfold few
        rw [HT.out, Bool.true_and]
        by_cases h : l.length ≤ 14
        · rw [decide_eq_true h, decide_eq_true (show (l.length : Int) ≤ 14 by omega)]
        · rw [decide_eq_false h, decide_eq_false (show ¬ (l.length : Int) ≤ 14 by omega)])
      go_wp2_with fail
      go_ret
      exact ⟨by rw [HF.out]; rfl, rfl⟩
end Go.Proofs.Ytlmcbmgdhpoedaa.Ds
