/- BlendOne. -/
import Derived.Test.YtekeiieefkgopaaBq
namespace Go.Proofs.Ytekeiieefkgopaa.Br
open Go.RowKit Go.Proofs.Ytekeiieefkgopaa.Aa Go.Proofs.Ytekeiieefkgopaa.Vw Go.Proofs.Ytekeiieefkgopaa.Ma Go.Proofs.Ytekeiieefkgopaa.Mb Go.Proofs.Ytekeiieefkgopaa.Mr Go.Proofs.Ytekeiieefkgopaa.Mt Go.Proofs.Ytekeiieefkgopaa.Na Go.Proofs.Ytekeiieefkgopaa.No Go.Proofs.Ytekeiieefkgopaa.Nq Go.Proofs.Ytekeiieefkgopaa.Ba Go.Proofs.Ytekeiieefkgopaa.Bb Go.Proofs.Ytekeiieefkgopaa.Bk Go.Proofs.Ytekeiieefkgopaa.Bm Go.Proofs.Ytekeiieefkgopaa.Bn Go.Proofs.Ytekeiieefkgopaa.Bo Go.Proofs.Ytekeiieefkgopaa.Bp Go.Proofs.Ytekeiieefkgopaa.Bq
set_option linter.unusedVariables false
set_option linter.unusedSimpArgs false

def True1 (w : World) (e : Ending) (w' : World) : Prop := e = .returned (.bool true) ∧ Ch no w w'
theorem szs_up {m n : Nat} {t : List Fl} (h : Szs m t) (hmn : m ≤ n) : Szs n t := fun f hf => by have := h f hf; omega
/-- Two sides' trees, together: one that is known. -/
theorem trees_is (o a b t : List Fl) (Ao Aa Ab : Option Addr) (co ca cb : Nat) (w : World) (ho : file.Row w Ao co o) (ha : file.Row w Aa ca a) (hb : file.Row w Ab cb b) (ro : Rise o) (ra : Rise a) (rb : Rise b)
    (lo : o.length ≤ 12) (la : a.length ≤ 12) (lb : b.length ≤ 12) (zo : Szs 600 o) (za : Szs 600 a) (zb : Szs 600 b) (ht : treesL o a b = (t, [])) :
    Calls Try.prog 9 #[.slice Ao o.length co, .slice Aa a.length ca, .slice Ab b.length cb] w fun e w' => ∃ A c Ad cd, e = .returned (.tuple #[.slice A t.length c, .slice Ad 0 cd]) ∧ file.Row w' A c t ∧ Ch no w w' := by
  have h := trees_any o a b Ao Aa Ab co ca cb w ho ha hb ro ra rb (by omega) (by omega) (by omega) (szs_up zo (by omega)) (szs_up za (by omega)) (szs_up zb (by omega))
  refine h.mono ?_
  rintro e w' ⟨A, c, Ad, cd, he, h1, _, h3⟩
  rw [ht] at he h1
  exact ⟨A, c, Ad, cd, he, h1, h3⟩
theorem same_yes (A B : Option Addr) (c d : Nat) (xs : List Fl) (w : World) (hx : file.Row w A c xs) (hy : file.Row w B d xs) :
    Calls Try.prog 11 #[.slice A xs.length c, .slice B xs.length d] w fun e w' => e = .returned (.bool true) ∧ Ch no w w' := by
  have h := same_of A B c d xs xs w hx hy
  rw [decide_eq_true rfl] at h
  exact h.mono fun e w' h => ⟨h.1, h.2.ch no⟩

set_option maxRecDepth 100000 in
set_option maxHeartbeats 8000000 in
theorem one_law (Ao Aa : Option Addr) (co ca : Nat) (o a : List Fl) (w : World) (ho : file.Row w Ao co o) (ha : file.Row w Aa ca a) (zo : Szs 140737488355328 o) (za : Szs 140737488355328 a) :
    Calls Try.prog 5 #[.slice Ao o.length co, .slice Aa a.length ca] w (True1 w) := by
  have HO := Lib.hid ho; have HA := Lib.hid ha; have ZO := Lib.hid zo; have ZA := Lib.hid za
  clear ho ha zo za
  go_enter Try.func5, Try.ntmps5
  go_wp2_with fail
  refine (awake_of w).mono ?_
  rintro e w1 ⟨rfl, hc⟩
  have C1 := Lib.hid hc
  clear hc
  go_wp2_with fail
  refine (good_of Ao co o w1 (HO.out.ch C1.out) ZO.out).mono ?_
  rintro e w2 ⟨b1, rfl, g1, hc⟩
  have C2 := Lib.hid (C1.out.same hc); have G1 := Lib.hid g1
  clear hc g1
  go_wp2_with fail
  refine (good_of Aa ca a w2 (HA.out.ch C2.out) ZA.out).mono ?_
  rintro e w3 ⟨b2, rfl, g2, hc⟩
  have C3 := Lib.hid (C2.out.same hc); have G2 := Lib.hid g2
  clear hc g2
  cases b1 with
  | false =>
    go_wp2_with fail
    go_ret
    exact ⟨rfl, C3.out⟩
  | true =>
    cases b2 with
    | false =>
      go_wp2_with fail
      go_ret
      exact ⟨rfl, C3.out⟩
    | true =>
      have K1 := Lib.hid (G1.out rfl); have K2 := Lib.hid (G2.out rfl)
      clear G1 G2
      go_wp2_with fail
      refine (trees_is o a o a Ao Aa Ao co ca co w3 (HO.out.ch C3.out) (HA.out.ch C3.out) (HO.out.ch C3.out) K1.out.1 K2.out.1 K1.out.1 K1.out.2.1 K2.out.2.1 K1.out.2.1 K1.out.2.2 K2.out.2.2 K1.out.2.2 (trees_left K1.out.1 K2.out.1 (by have := K1.out.2.1; have := K2.out.2.1; omega))).mono ?_
      rintro e w4 ⟨A4, c4, Ad4, cd4, rfl, h4, hc⟩
      have C4 := Lib.hid (C3.out.same hc); have R4 := Lib.hid h4
      clear hc h4
      go_wp2_with fail
      refine (trees_is o o a a Ao Ao Aa co co ca w4 (HO.out.ch C4.out) (HO.out.ch C4.out) (HA.out.ch C4.out) K1.out.1 K1.out.1 K2.out.1 K1.out.2.1 K1.out.2.1 K2.out.2.1 K1.out.2.2 K1.out.2.2 K2.out.2.2 (trees_right K1.out.1 K2.out.1 (by have := K1.out.2.1; have := K2.out.2.1; omega))).mono ?_
      rintro e w5 ⟨A5, c5, Ad5, cd5, rfl, h5, hc⟩
      have C5 := Lib.hid (C4.out.same hc); have R5 := Lib.hid h5; have R45 := Lib.hid (R4.out.ch hc)
      clear hc h5
      go_wp2_with fail
      refine (trees_is o a a a Ao Aa Aa co ca ca w5 (HO.out.ch C5.out) (HA.out.ch C5.out) (HA.out.ch C5.out) K1.out.1 K2.out.1 K2.out.1 K1.out.2.1 K2.out.2.1 K2.out.2.1 K1.out.2.2 K2.out.2.2 K2.out.2.2 (trees_both K2.out.1 (by have := K2.out.2.1; omega))).mono ?_
      rintro e w6 ⟨A6, c6, Ad6, cd6, rfl, h6, hc⟩
      have C6 := Lib.hid (C5.out.same hc); have R6 := Lib.hid h6; have R46 := Lib.hid (R45.out.ch hc); have R56 := Lib.hid (R5.out.ch hc)
      clear hc h6
      go_wp2_with fail
      refine (same_yes A4 Aa c4 ca a w6 R46.out (HA.out.ch C6.out)).mono ?_
      rintro e w7 ⟨rfl, hc⟩
      have C7 := Lib.hid (C6.out.same hc); have R57 := Lib.hid (R56.out.ch hc); have R67 := Lib.hid (R6.out.ch hc)
      clear hc
      go_wp2_with fail
      refine (same_yes A5 Aa c5 ca a w7 R57.out (HA.out.ch C7.out)).mono ?_
      rintro e w8 ⟨rfl, hc⟩
      have C8 := Lib.hid (C7.out.same hc); have R68 := Lib.hid (R67.out.ch hc)
      clear hc
      go_wp2_with fail
      refine (same_yes A6 Aa c6 ca a w8 R68.out (HA.out.ch C8.out)).mono ?_
      rintro e w9 ⟨rfl, hc⟩
      have C9 := Lib.hid (C8.out.same hc)
      clear hc
      go_wp2_with fail
      go_ret
      exact ⟨rfl, C9.out⟩

end Go.Proofs.Ytekeiieefkgopaa.Br
