/- Whether one stands on another one: the closure, by how many are not seen; then the whole. -/
import Derived.Test.YtlmcbmgdhpoedaaDp
namespace Go.Proofs.Ytlmcbmgdhpoedaa.Dq
open Go Go.RowKit Go.Proofs.Ytlmcbmgdhpoedaa.Aa Go.Proofs.Ytlmcbmgdhpoedaa.Vw Go.Proofs.Ytlmcbmgdhpoedaa.Mp Go.Proofs.Ytlmcbmgdhpoedaa.Mr Go.Proofs.Ytlmcbmgdhpoedaa.Mt Go.Proofs.Ytlmcbmgdhpoedaa.Da Go.Proofs.Ytlmcbmgdhpoedaa.Db Go.Proofs.Ytlmcbmgdhpoedaa.Dc Go.Proofs.Ytlmcbmgdhpoedaa.De Go.Proofs.Ytlmcbmgdhpoedaa.Df Go.Proofs.Ytlmcbmgdhpoedaa.Di Go.Proofs.Ytlmcbmgdhpoedaa.Dj Go.Proofs.Ytlmcbmgdhpoedaa.Dk Go.Proofs.Ytlmcbmgdhpoedaa.Dl Go.Proofs.Ytlmcbmgdhpoedaa.Dn Go.Proofs.Ytlmcbmgdhpoedaa.Dp
set_option linter.unusedVariables false
set_option linter.unusedSimpArgs false

theorem contains_of (b : Bl) (a : Nm) (d : Gr) (U : List Nm) (n : Nat) (IH : Stands b a d U n) (A : Option Addr) (c : Nat) (ps : List Nm) (w : World) (mo : List (Nm × Value)) (hr : El.str.Row w A c ps) (hU : ∀ p ∈ ps, p ∈ U) (h : StV w b a d mo) (ha : a ∉ keysOf mo) (hn : un U (keysOf mo) ≤ n) :
    Calls Try.prog 34 #[.slice A ps.length c, b.fn] w fun e w' => ∃ (r : Bool) (mo' : List (Nm × Value)), e = .returned (.bool r) ∧ StV w' b a d mo' ∧ Ch (Aa.one b.ms) w w' ∧ Dfs d a ps (keysOf mo) (keysOf mo') r := by
  have HH := Lib.hid (index_of b a d U n IH A c ps w mo hr hU h ha hn)
  clear hr hU h ha hn IH
  go_enter Try.func34, Try.ntmps34
  go_wp2_with fail
  refine HH.out.mono ?_
  rintro e w1 ⟨i, r, mo1, rfl, hi, hs, hc, hd⟩
  have HS := Lib.hid hs; have HC := Lib.hid hc; have HD := Lib.hid hd
  have hri : decide (0 ≤ i) = r := by
    cases r with
    | true => rw [decide_eq_true_eq]; exact hi.2 rfl
    | false => rw [decide_eq_false_iff_not]; intro h; exact absurd (hi.1 h) (by simp)
  have HRI := Lib.hid hri
  clear hs hc hd hi hri
  go_wp2_with fail
  go_ret
  exact ⟨r, mo1, by rw [← HRI.out]; rfl, HS.out, HC.out, HD.out⟩
theorem look_fix {w : World} {B : Nat} {d : Gr} (h : DagV w B d) (x : Nm) :
    ∃ v, RowV w v (d.par x) ∧ ∀ W, Ch no w W → (Instr.lookup 49 (.map (some B)) (.string x) false).run Try.prog W = .ok v W := by
  obtain ⟨m, hm, he⟩ := h.inm
  refine ⟨(mget m x).getD (.slice none 0 0), ?_, fun W hW => ?_⟩
  · rcases he.get x with ⟨h1, h2⟩ | ⟨v, ps, h1, h2, h3⟩
    · rw [get_insP, Option.map_eq_none_iff] at h2
      rw [h1]
      unfold Gr.par
      rw [h2]
      exact RowV.nil w
    · rw [get_insP, Option.map_eq_some_iff] at h2
      obtain ⟨e, h2, rfl⟩ := h2
      rw [h1]
      unfold Gr.par
      rw [h2]
      exact h3
  · have hr := run_get strKey Try.underlying49 Try.underlying30 (hm.ch hW (no_not _)) x false (zeroIds W)
    rw [hr]; rfl
set_option maxRecDepth 100000 in
set_option maxHeartbeats 8000000 in
theorem stands_all (b : Bl) (a : Nm) (d : Gr) (U : List Nm) (hU : ∀ u ∈ U, ∀ p ∈ d.par u, p ∈ U) : ∀ n, Stands b a d U n := by
  intro n
  induction n with
  | zero =>
    intro x w mo hx h ha hn
    have hk : x ∈ keysOf mo := by
      apply Classical.byContradiction
      intro hk
      have : x ∈ U.filter (fun u => decide (u ∉ keysOf mo)) := List.mem_filter.2 ⟨hx, by simpa using hk⟩
      have := List.length_pos_of_mem this
      unfold un at hn
      omega
    have hxa : x ≠ a := fun e => ha (e ▸ hk)
    have hbe := beq_no hxa
    have q0 := (bCell h.av 0).trans rfl
    have q1 := (bCell h.sv 0).trans rfl
    have hlk := h.look x
    rw [decide_eq_true hk] at hlk
    have HS := Lib.hid h; have HK := Lib.hid hk; have HA := Lib.hid ha
    clear h hk ha hn hxa
    go_enter Try.func33, Try.ntmps33
    go_wp2_with fail
    go_ret
    exact ⟨false, mo, rfl, HS.out, Ch.refl _ _, ⟨fun _ h => h, HA.out, fun h => (by cases h), fun _ => ⟨fun y hy => by (simp only [List.mem_singleton] at hy; subst hy; exact HK.out), fun u h1 h2 => absurd h1 h2⟩⟩⟩
  | succ n IH =>
    intro x w mo hx h ha hn
    by_cases hxa : x = a
    · have hbe := beq_yes hxa
      have q0 := (bCell h.av 0).trans rfl
      have HS := Lib.hid h; have HA := Lib.hid ha; have HX := Lib.hid hxa
      clear h ha hn hxa
      go_enter Try.func33, Try.ntmps33
      go_wp2_with fail
      go_ret
      exact ⟨true, mo, rfl, HS.out, Ch.refl _ _, ⟨fun _ h => h, HA.out, fun _ => ⟨x, by simp, by rw [HX.out]; exact .refl _⟩, fun h => (by cases h)⟩⟩
    · have hbe := beq_no hxa
      by_cases hk : x ∈ keysOf mo
      · have q0 := (bCell h.av 0).trans rfl
        have q1 := (bCell h.sv 0).trans rfl
        have hlk := h.look x
        rw [decide_eq_true hk] at hlk
        have HS := Lib.hid h; have HK := Lib.hid hk; have HA := Lib.hid ha
        clear h hk ha hn hxa
        go_enter Try.func33, Try.ntmps33
        go_wp2_with fail
        go_ret
        exact ⟨false, mo, rfl, HS.out, Ch.refl _ _, ⟨fun _ h => h, HA.out, fun h => (by cases h), fun _ => ⟨fun y hy => by (simp only [List.mem_singleton] at hy; subst hy; exact HK.out), fun u h1 h2 => absurd h1 h2⟩⟩⟩
      · have q0 := (bCell h.av 0).trans rfl
        have q1 := (bCell h.sv 0).trans rfl
        have hlk := h.look x
        rw [decide_eq_false hk] at hlk
        obtain ⟨w1, hrun, hm1, hc1⟩ := run_put strKey Try.underlying54 Try.underlying30 h.seen x (.bool true)
        have hmp : mput mo x (.bool true) = mo ++ [(x, .bool true)] := mput_new hk
        have hst1 : StV w1 b a d (mput mo x (.bool true)) := h.step hc1 hm1 (by
          rw [hmp]
          intro p hp
          rcases List.mem_append.1 hp with hp | hp
          · exact h.tr p hp
          · simp only [List.mem_singleton] at hp
            rw [hp])
        have hkeys : ∀ u, u ∈ keysOf (mput mo x (.bool true)) ↔ (u = x ∨ u ∈ keysOf mo) := fun u => mem_mput
        have ha1 : a ∉ keysOf (mput mo x (.bool true)) := fun h2 => by
          rcases (hkeys a).1 h2 with h3 | h3
          · exact hxa h3.symm
          · exact ha h3
        have hn1 : un U (keysOf (mput mo x (.bool true))) ≤ n := by
          have := un_lt (K' := keysOf (mput mo x (.bool true))) (fun u hu => (hkeys u).2 (.inr hu)) hx hk ((hkeys x).2 (.inl rfl))
          omega
        obtain ⟨v, hrow, hfix⟩ := look_fix hst1.dag x
        have HS1 := Lib.hid hst1; have HKE := Lib.hid hkeys; have HA1 := Lib.hid ha1; have HN1 := Lib.hid hn1; have HXA := Lib.hid hxa; have HC1 := Lib.hid hc1; have HROW := Lib.hid hrow; have HFX := Lib.hid hfix
        have HPU := Lib.hid (hU x hx)
        have HIH := Lib.hid IH
        obtain ⟨mo1, hmo1⟩ : ∃ mo1, mput mo x (.bool true) = mo1 := ⟨_, rfl⟩
        rw [hmo1] at HS1 HKE HA1 HN1
        clear h ha hn hxa hk hm1 hc1 hmp hst1 hkeys ha1 hn1 hrow hfix hx hmo1 IH hU
        go_enter Try.func33, Try.ntmps33
        go_wp2_with fail
        refine wp_world (fun X => Hid (Ch no w1 X)) (Lib.hid (Ch.refl no w1)) ?_
        intro W0 HW0
        have HS1 : Hid (StV W0.drew b a d mo1) := Lib.hid (HS1.out.ch HW0.out.drew)
        have HLK : Hid (∀ W, Ch no W0.drew W → (Instr.lookup 49 (.map (some b.B)) (.string x) false).run Try.prog W = .ok v W) := Lib.hid (fun W hW => HFX.out W (HW0.out.drew.then_ hW))
        have HROW : Hid (RowV W0.drew v (d.par x)) := Lib.hid (HROW.out.ch HW0.out.drew)
        have HC1 : Hid (Ch (Aa.one b.ms) w W0.drew) := Lib.hid (HC1.out.then_ HW0.out.drew)
        clear hbe q0 q1 hlk HFX hrun HW0
        refine wp_region_tail2 (G := gds [Gd.is (ptr b.B), Gd.is (ptr b.B), Gd.is (ptr b.B), Gd.is (.map (some b.B)), Gd.is (.string x), Gd.is v, Gd.is b.fn]) 7 (by kernel_rfl) (by kernel_rfl) rfl (by kernel_rfl) (by kernel_rfl) gds_st ?obl4 ?fin4
        case obl4 =>
          simp only [Obls, and_true, List.take_succ_cons, List.take_zero]
          refine ⟨?_, ?_, ?_, ?_, ?_, ?_, ?_⟩
          · intro vs W hW hd
            simp only [fill, List.setIfInBounds_toArray, List.set_cons_zero, List.set_cons_succ]
            clear hd
            have q0 := (bCell (hW.blk HS1.out.dv (no_not _)) 0).trans rfl
            have q1 := (bCell (hW.blk HS1.out.fv (no_not _)) 0).trans rfl
            have q2 := (HS1.out.dag.ch hW).cell0
            go_wp2_with (fail)
            refine ⟨rfl, rfl, Ch.refl _ _, gds_is rfl ?_⟩
            (conv => lhs; whnf)
          · intro vs W hW hd
            simp only [fill, List.setIfInBounds_toArray, List.set_cons_zero, List.set_cons_succ]
            have d0 := gds_at rfl (hd ⟨0, .data⟩ (by simp) rfl)
            rw [d0]
            clear hd d0
            go_wp2_with (fail)
            refine ⟨rfl, rfl, Ch.refl _ _, gds_is rfl ?_⟩
            (conv => lhs; whnf)
          · intro vs W hW hd
            simp only [fill, List.setIfInBounds_toArray, List.set_cons_zero, List.set_cons_succ]
            have d1 := gds_at rfl (hd ⟨1, .data⟩ (by simp) rfl)
            rw [d1]
            clear hd d1
            go_wp2_with (fail)
            refine ⟨rfl, rfl, Ch.refl _ _, gds_is rfl ?_⟩
            (conv => lhs; whnf)
          · intro vs W hW hd
            simp only [fill, List.setIfInBounds_toArray, List.set_cons_zero, List.set_cons_succ]
            have d2 := gds_at rfl (hd ⟨2, .data⟩ (by simp) rfl)
            rw [d2]
            clear hd d2
            have q0 := (bCell (hW.blk HS1.out.dv (no_not _)) 0).trans rfl
            have q1 := (bCell (hW.blk HS1.out.fv (no_not _)) 0).trans rfl
            have q2 := (HS1.out.dag.ch hW).cell0
            go_wp2_with (fail)
            refine ⟨rfl, rfl, Ch.refl _ _, gds_is rfl ?_⟩
            (conv => lhs; whnf)
          · intro vs W hW hd
            simp only [fill, List.setIfInBounds_toArray, List.set_cons_zero, List.set_cons_succ]
            clear hd
            go_wp2_with (fail)
            refine ⟨rfl, rfl, Ch.refl _ _, gds_is rfl ?_⟩
            (conv => lhs; whnf)
          · intro vs W hW hd
            simp only [fill, List.setIfInBounds_toArray, List.set_cons_zero, List.set_cons_succ]
            have d3 := gds_at rfl (hd ⟨3, .data⟩ (by simp) rfl)
            have d4 := gds_at rfl (hd ⟨4, .data⟩ (by simp) rfl)
            rw [d3, d4]
            clear hd d3 d4
            have hlk := HLK.out W hW
            go_wp2_with (fail)
            refine ⟨rfl, rfl, Ch.refl _ _, gds_is rfl ?_⟩
            (conv => lhs; whnf)
          · intro vs W hW hd
            simp only [fill, List.setIfInBounds_toArray, List.set_cons_zero, List.set_cons_succ]
            clear hd
            have q0 := (bCell (hW.blk HS1.out.dv (no_not _)) 0).trans rfl
            have q1 := (bCell (hW.blk HS1.out.fv (no_not _)) 0).trans rfl
            have q2 := (HS1.out.dag.ch hW).cell0
            go_wp2_with (fail)
            exact ⟨rfl, rfl, Ch.refl _ _, gds_is rfl rfl⟩
        case fin4 =>
          intro vs W hW hd
          simp only [fill, List.setIfInBounds_toArray, List.set_cons_zero, List.set_cons_succ, List.take_succ_cons, List.take_zero, List.drop_succ_cons, List.drop_zero]
          have d0 := gds_at rfl (hd 0 (by omega))
          have d1 := gds_at rfl (hd 1 (by omega))
          have d2 := gds_at rfl (hd 2 (by omega))
          have d3 := gds_at rfl (hd 3 (by omega))
          have d4 := gds_at rfl (hd 4 (by omega))
          have d5 := gds_at rfl (hd 5 (by omega))
          have d6 := gds_at rfl (hd 6 (by omega))
          rw [d0, d1, d2, d3, d4, d5, d6]
          clear hd d0 d1 d2 d3 d4 d5 d6
          obtain ⟨A, c, rfl, hr⟩ := HROW.out
          go_wp2_with (refine (contains_of b a d U n (HIH.out) A c (d.par x) W mo1 (hr.ch hW) HPU.out (HS1.out.ch hW) HA1.out HN1.out).mono ?_; rintro e w3 ⟨r, mo2, rfl, hs3, hc3, hd3⟩; have HS3 := Lib.hid hs3; have HC3 := Lib.hid hc3; have HD3 := Lib.hid hd3; clear hs3 hc3 hd3)
          go_ret
          exact ⟨r, mo2, rfl, HS3.out, (HC1.out.then_ hW).same HC3.out, HD3.out.node HXA.out HKE.out⟩
end Go.Proofs.Ytlmcbmgdhpoedaa.Dq
