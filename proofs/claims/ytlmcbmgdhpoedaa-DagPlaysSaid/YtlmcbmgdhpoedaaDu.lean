/- The chapter's example: walked. -/
import Derived.Test.YtlmcbmgdhpoedaaDt
namespace Go.Proofs.Ytlmcbmgdhpoedaa.Du
open Go Go.RowKit Go.Proofs.Ytlmcbmgdhpoedaa.Aa Go.Proofs.Ytlmcbmgdhpoedaa.Vw Go.Proofs.Ytlmcbmgdhpoedaa.Da Go.Proofs.Ytlmcbmgdhpoedaa.Db Go.Proofs.Ytlmcbmgdhpoedaa.Dc Go.Proofs.Ytlmcbmgdhpoedaa.De Go.Proofs.Ytlmcbmgdhpoedaa.Di Go.Proofs.Ytlmcbmgdhpoedaa.Dk Go.Proofs.Ytlmcbmgdhpoedaa.Dl Go.Proofs.Ytlmcbmgdhpoedaa.Dr Go.Proofs.Ytlmcbmgdhpoedaa.Dt
set_option linter.unusedVariables false
set_option linter.unusedSimpArgs false

abbrev na : Nm := { data := #[97] }
abbrev nb : Nm := { data := #[98] }
def g1 : Gr := (Gr.new.add nb [na]).1
def g2 : Gr := (g1.add na []).1
theorem f1 : Gr.new.add nb [na] = (g1, []) := by decide +kernel
theorem f2 : g1.lacks = [na] := by decide +kernel
theorem f3 : g1.add na [] = (g2, [na, nb]) := by decide +kernel
theorem f4 : g2.level nb = 1 := by decide +kernel
theorem f5 : g2.heads = [nb] := by decide +kernel
theorem f6 : g2.ins.length = 2 := by decide +kernel
theorem f7 : g2.has na = true ∧ g2.has nb = true ∧ g2.Reach nb na := by
  refine ⟨by decide +kernel, by decide +kernel, .step (p := na) ?_ (.refl _)⟩
  have : g2.par nb = [na] := by decide +kernel
  rw [this]
  exact List.mem_cons_self ..
theorem row_nil {w : World} {v : Value} (h : RowV w v []) : ∃ A c, v = .slice A 0 c := by
  obtain ⟨A, c, rfl, _⟩ := h; exact ⟨A, c, rfl⟩
theorem fine1 : Fine g1 1 := Fine.new.add (by decide) (by decide) (by decide)
theorem fine2 : Fine g2 2 := fine1.add (by decide) (by decide) (by decide)
theorem own_two (w : World) (x y : Nm) (B : Nat) (hB : B ≤ w.heap.size) : OwnS (w.alloc (.cells #[.string x, .string y] 30)) B (.slice (some ⟨w.heap.size, 0, none⟩) 2 2) [x, y] :=
  ⟨by simp, .inr ⟨w.heap.size, 2, #[.string x, .string y], rfl, hB, bNew _ _, Nat.le_refl _, by unfold maxLen; omega, by simp, by simp⟩⟩
theorem row_of_own {w : World} {B : Nat} {A : Option Addr} {n c : Nat} {xs : List Nm} (h : OwnS w B (.slice A n c) xs) : El.str.Row w A c xs := by
  obtain ⟨A', c', h1, h2⟩ := El.Row.of_own h
  cases h1
  exact h2
set_option maxRecDepth 100000 in
set_option maxHeartbeats 4000000 in
theorem awake_of (w : World) : Calls Try.prog 8 #[] w fun e w' => e = .returned (.bool true) ∧ Ch no w w' := by
  go_enter Try.func8, Try.ntmps8
  go_wp2_with fail
  refine (new_of w).mono ?_
  rintro e w1 ⟨rfl, hd1, hc1⟩
  obtain ⟨B, hB⟩ : ∃ B, w.heap.size = B := ⟨_, rfl⟩
  rw [hB] at hd1 ⊢
  have HB := Lib.hid hB
  have HD1 := Lib.hid hd1; have HC1 := Lib.hid hc1; clear hd1 hc1 hB
  go_wp2_with fail
  have hr1 : RowV (w1.alloc (.cells #[.string na] 30)) (.slice (some ⟨w1.heap.size, 0, none⟩) 1 1) [na] := RowV.of_own (own_one w1 na 0 (by omega))
  have ha := add_of B Gr.new 0 nb (.slice (some ⟨w1.heap.size, 0, none⟩) 1 1) [na] (w1.alloc (.cells #[.string na] 30)) (HD1.out.ch ((Ch.refl _ _).alloc _)) hr1 Fine.new (by omega) (by decide) (by decide) (by decide)
  rw [f1] at ha
  refine ha.mono ?_
  rintro e w2 ⟨r1, rfl, hv1, hd2, hc2⟩
  obtain ⟨A1, c1, rfl⟩ := row_nil hv1
  have HD2 := Lib.hid hd2
  have HC2 : Hid (Ch no w w2) := Lib.hid ((HC1.out.alloc _).trans hc2 (fun i hi h => by have := HB.out; rcases h with h | h | h <;> omega))
  clear hd2 hc2 hv1 ha hr1 HD1 HC1
  go_wp2_with fail
  refine (lacks_of B g1 1 w2 HD2.out fine1 (by omega)).mono ?_
  rintro e w3 ⟨v3, rfl, ho3, hc3⟩
  rw [f2] at ho3
  obtain ⟨A3, c3, rfl⟩ := own_shape ho3
  have HR3 := Lib.hid (row_of_own ho3); have HC3 := Lib.hid hc3
  have HD3 := Lib.hid (HD2.out.ch hc3)
  clear ho3 hc3 HD2
  go_wp2_with fail
  have ha := add_of B g1 1 na (.slice none 0 0) [] w3 HD3.out (RowV.nil _) fine1 (by omega) (by decide) (by decide) (by decide)
  rw [f3] at ha
  refine ha.mono ?_
  rintro e w4 ⟨r4, rfl, ⟨A4, c4, rfl, hv4⟩, hd4, hc4⟩
  have HD4 := Lib.hid hd4; have HR4 := Lib.hid hv4
  have HR3' : Hid (El.str.Row w4 A3 c3 [na]) := Lib.hid (row_keep HD3.out.maps hc4 HR3.out)
  have HC4 : Hid (Ch no w w4) := Lib.hid ((HC2.out.then_ HC3.out).trans hc4 (fun i hi h => by have := HB.out; rcases h with h | h | h <;> omega))
  clear hd4 hc4 hv4 ha HD3 HR3
  go_wp2_with fail
  have hi := ids_any A3 (some ⟨w4.heap.size, 0, none⟩) c3 1 [na] [na] (w4.alloc (.cells #[.string na] 30)) (HR3'.out.ch ((Ch.refl _ _).alloc _)) (row_of_own (own_one w4 na 0 (by omega)))
  rw [decide_eq_true (rfl : [na] = [na])] at hi
  refine hi.mono ?_
  rintro e w5 ⟨rfl, hdr⟩
  have hc5 : Ch no w4 w5 := ((Ch.refl no w4).alloc _).then_ (hdr.ch no)
  have HC5 := Lib.hid (HC4.out.then_ hc5); have HD5 := Lib.hid (HD4.out.ch hc5); have HR5 := Lib.hid (HR4.out.ch hc5)
  clear hdr hc5 hi HD4 HR4 HR3'
  go_wp2_with fail
  have hi := ids_any A4 (some ⟨w5.heap.size, 0, none⟩) c4 2 [na, nb] [na, nb] (w5.alloc (.cells #[.string na, .string nb] 30)) (HR5.out.ch ((Ch.refl _ _).alloc _)) (row_of_own (own_two w5 na nb 0 (by omega)))
  rw [decide_eq_true (rfl : [na, nb] = [na, nb])] at hi
  refine hi.mono ?_
  rintro e w6 ⟨rfl, hdr⟩
  have hc6 : Ch no w5 w6 := ((Ch.refl no w5).alloc _).then_ (hdr.ch no)
  have HC6 := Lib.hid (HC5.out.then_ hc6); have HD6 := Lib.hid (HD5.out.ch hc6)
  clear hdr hc6 hi HD5 HR5
  go_wp2_with fail
  have hl := level_of B g2 nb w6 HD6.out
  rw [f4] at hl
  refine hl.mono ?_
  rintro e w' ⟨rfl, hw⟩
  subst hw
  clear hl
  go_wp2_with fail
  refine (above_of B g2 na nb w6 HD6.out).mono ?_
  rintro e w7 ⟨r, rfl, hr, hc7⟩
  obtain rfl : r = true := hr.2 f7
  have HC7 := Lib.hid (HC6.out.then_ hc7); have HD7 := Lib.hid (HD6.out.ch hc7)
  clear hr hc7 HD6
  go_wp2_with fail
  refine (heads_of B g2 2 w7 HD7.out fine2 (by omega)).mono ?_
  rintro e w8 ⟨v8, rfl, ho8, hc8⟩
  rw [f5] at ho8
  obtain ⟨A8, c8, rfl⟩ := own_shape ho8
  have HR8 := Lib.hid (row_of_own ho8)
  have HC8 := Lib.hid (HC7.out.then_ hc8); have HD8 := Lib.hid (HD7.out.ch hc8)
  clear ho8 hc8 HD7
  go_wp2_with fail
  have hi := ids_any A8 (some ⟨w8.heap.size, 0, none⟩) c8 1 [nb] [nb] (w8.alloc (.cells #[.string nb] 30)) (HR8.out.ch ((Ch.refl _ _).alloc _)) (row_of_own (own_one w8 nb 0 (by omega)))
  rw [decide_eq_true (rfl : [nb] = [nb])] at hi
  refine hi.mono ?_
  rintro e w9 ⟨rfl, hdr⟩
  have hc9 : Ch no w8 w9 := ((Ch.refl no w8).alloc _).then_ (hdr.ch no)
  have HC9 := Lib.hid (HC8.out.then_ hc9); have HD9 := Lib.hid (HD8.out.ch hc9)
  clear hdr hc9 hi HD8 HR8
  go_wp2_with fail
  have hm := many_of B g2 w9 HD9.out
  rw [f6] at hm
  refine hm.mono ?_
  rintro e w' ⟨rfl, hw⟩
  subst hw
  clear hm
  go_wp2_with fail
  go_ret
  exact ⟨rfl, HC9.out⟩
end Go.Proofs.Ytlmcbmgdhpoedaa.Du
