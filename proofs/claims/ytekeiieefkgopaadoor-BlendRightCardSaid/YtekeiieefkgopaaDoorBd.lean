/- The paths of two trees, handed out one by one. -/
import Derived.Test.YtekeiieefkgopaaDoorBc
import Derived.Test.YtekeiieefkgopaaDoorMj
import Derived.Test.YtekeiieefkgopaaDoorMi
import Derived.Test.YtekeiieefkgopaaDoorNd
import Derived.Test.YtekeiieefkgopaaDoorNf
namespace Go.Proofs.YtekeiieefkgopaaDoor.Bd
open Go.RowKit Go.Proofs.YtekeiieefkgopaaDoor.Aa Go.Proofs.YtekeiieefkgopaaDoor.Vw Go.Proofs.YtekeiieefkgopaaDoor.Mb Go.Proofs.YtekeiieefkgopaaDoor.Mr Go.Proofs.YtekeiieefkgopaaDoor.Ms Go.Proofs.YtekeiieefkgopaaDoor.Mt Go.Proofs.YtekeiieefkgopaaDoor.Mh Go.Proofs.YtekeiieefkgopaaDoor.Mj Go.Proofs.YtekeiieefkgopaaDoor.Na Go.Proofs.YtekeiieefkgopaaDoor.Nb Go.Proofs.YtekeiieefkgopaaDoor.No Go.Proofs.YtekeiieefkgopaaDoor.Nq Go.Proofs.YtekeiieefkgopaaDoor.Ba Go.Proofs.YtekeiieefkgopaaDoor.Bc
attribute [local go_sem] Oper.semAt_some
set_option linter.unusedVariables false
set_option linter.unusedSimpArgs false

theorem infoFile : (Tryd.prog.info? 31).map (fun i => (i.zero, i.size, i.bytes)) = some (some (.agg #[.string ByteArray.empty, .string ByteArray.empty]), 2, 32) := by kernel_rfl
theorem paths_of (A B : Option Addr) (n m c d : Nat) (w : World) :
    Calls Tryd.prog 35 #[.slice A n c, .slice B m d] w fun e w' => e = .returned (.func (.func 61) #[] #[.pointer (some ⟨w.heap.size, 0, none⟩), .pointer (some ⟨w.heap.size + 1, 0, none⟩)]) ∧
      w'.heap[w.heap.size]? = some (.cells #[.slice A n c] 22 (0, 0)) ∧ w'.heap[w.heap.size + 1]? = some (.cells #[.slice B m d] 22 (0, 0)) ∧ Ch no w w' := by
  have hb := Lib.hid (al2 w (.cells #[.slice A n c] 22) (.cells #[.slice B m d] 22))
  go_enter Tryd.func35, Tryd.ntmps35
  go_wp2_with fail
  go_ret
  exact ⟨rfl, hb.out.1, hb.out.2, ((Ch.refl no w).alloc _).alloc _⟩

theorem file_head {w : World} {A : Option Addr} {c : Nat} {f : Fl} {t : List Fl} (h : file.Row w A c (f :: t)) : ∃ ad, A = some ad ∧ w.cell? ad = some (.string f.path) := by
  obtain ⟨ad, rfl, h0, _⟩ := file_at h 0 (by simp)
  exact ⟨ad, rfl, by simpa [Addr.add] using h0⟩
theorem file_tail (A : Option Addr) (c : Nat) (f : Fl) (t : List Fl) : ∃ A' : Option Addr, (∀ W : World, (Instr.slice 22 (.slice A (t.length + 1) c) (some (.int .i64 1)) none none).run Tryd.prog W = .ok (.slice A' t.length (c - 1)) W) ∧
    ∀ w : World, file.Row w A c (f :: t) → file.Row w A' (c - 1) t := by
  obtain ⟨i0, hi, hz0, hz1, hz2⟩ := info_parts infoFile
  obtain ⟨A', h1, h2⟩ := cut_l (P := Tryd.prog) (d := file) 22 31 .i64 Tryd.underlying22 hi hz1 A c (f :: t) 1 (by omega) (by simp; omega)
  exact ⟨A', fun W => by have := h1 W; simpa using this, fun w h => by have := h2 w h; simpa using this⟩

/-- The iterator between two rounds: the trees lie in what was there at first; two boxes hold what is left of them. -/
structure ItP (wb w0 w : World) (ba bb : Nat) (J : List ByteArray → World → Prop) (xs : List ByteArray) (n : Nat) (a b : List Fl) (A B : Option Addr) (c d : Nat) (pre : List ByteArray) : Prop where
  eq : xs = pre ++ pathsL a b
  le : a.length + b.length ≤ n
  j : J pre w
  ba : w.heap[ba]? = some (.cells #[.slice A a.length c] 22 (0, 0))
  bb : w.heap[bb]? = some (.cells #[.slice B b.length d] 22 (0, 0))
  ra : file.Row wb A c a
  rb : file.Row wb B d b
  base : Ch no wb w
def Two2 (ba bb : Nat) : Nat → Prop := fun k => k = ba ∨ k = bb
section
variable {wb w0 w : World} {ba bb : Nat} {J : List ByteArray → World → Prop} {xs : List ByteArray} {n : Nat} {a b : List Fl} {A B : Option Addr} {c d : Nat} {pre : List ByteArray}
theorem ItP.step {w' : World} (h : ItP wb w0 w ba bb J xs n a b A B c d pre) (hc : Ch no w w') (hj : J pre w') : ItP wb w0 w' ba bb J xs n a b A B c d pre :=
  ⟨h.eq, h.le, hj, hc.blk h.ba (no_not _), hc.blk h.bb (no_not _), h.ra, h.rb, h.base.same hc⟩
/-- What a round has when it yields: the boxes turned, the rest of the trees. -/
structure Yl (wb w : World) (ba bb : Nat) (a b a' b' : List Fl) (p : ByteArray) (A B : Option Addr) (c d : Nat) : Prop where
  eq : pathsL a b = p :: pathsL a' b'
  lt : a'.length + b'.length < a.length + b.length
  ba : w.heap[ba]? = some (.cells #[.slice A a'.length c] 22 (0, 0))
  bb : w.heap[bb]? = some (.cells #[.slice B b'.length d] 22 (0, 0))
  ra : file.Row wb A c a'
  rb : file.Row wb B d b'
end

set_option maxRecDepth 100000 in
set_option maxHeartbeats 16000000 in
theorem paths_iter (n ba bb : Nat) (U : Nat → Prop) (a b : List Fl) (A B : Option Addr) (c d : Nat) (wb w : World) (hba : w.heap[ba]? = some (.cells #[.slice A a.length c] 22 (0, 0))) (hbb : w.heap[bb]? = some (.cells #[.slice B b.length d] 22 (0, 0)))
    (hA : file.Row wb A c a) (hB : file.Row wb B d b) (hbase : Ch no wb w) (hla : a.length ≤ 1000000) (hlb : b.length ≤ 1000000) (hU : ∀ k, U k → wb.heap.size ≤ k ∧ k ≠ ba ∧ k ≠ bb) (h1 : wb.heap.size ≤ ba) (h2 : wb.heap.size ≤ bb) (hne : ba ≠ bb) :
    Iter Fence.wide n Tryd.prog 61 #[.pointer (some ⟨ba, 0, none⟩), .pointer (some ⟨bb, 0, none⟩)] (fun x : ByteArray => #[.string x]) (Two2 ba bb) U (pathsL a b) w := by
  intro l J W hW hJ hY hJ0
  refine callsIn_wide.2 ?_
  have HJ := Lib.hid hJ; have HY := Lib.hid hY; have HU := Lib.hid hU
  have HI : Hid (ItP wb W W ba bb J (pathsL a b) (a.length + b.length) a b A B c d []) := Lib.hid ⟨rfl, Nat.le_refl _, hJ0, hW.blk hba (no_not _), hW.blk hbb (no_not _), hA, hB, hbase.same hW⟩
  clear hJ hY hU hba hbb hA hB hbase hW hJ0
  go_enter Tryd.func61, Tryd.ntmps61
  go_wp2_with fail
  go_loopg [4] (a.length + b.length) (fun k _ wr => ∃ (a' b' : List Fl) (A' B' : Option Addr) (c' d' : Nat) (pre : List ByteArray), a'.length ≤ 1000000 ∧ b'.length ≤ 1000000 ∧ Hid (ItP wb W wr ba bb J (pathsL a b) k a' b' A' B' c' d' pre))
  case atStart => exact ⟨a, b, A, B, c, d, [], hla, hlb, HI⟩
  case round =>
    clear HI
    obtain ⟨a', b', A', B', c', d', pre, hla', hlb', HI⟩ := hrel
    have hc0 := (bCell HI.out.ba 0).trans rfl
    have hc1 := (bCell HI.out.bb 0).trans rfl
    by_cases h0 : a' = [] ∧ b' = []
    · obtain ⟨rfl, rfl⟩ := h0
      go_wp2_with fail
      go_end0
      refine ⟨⟨_, rfl⟩, ?_⟩
      have h := HI.out.eq
      rw [show pathsL [] [] = [] from by rw [pathsL], List.append_nil] at h
      rw [h]
      exact HI.out.j
    · have hpos : 0 < a'.length + b'.length := by
        cases a' with
        | nil => cases b' with
          | nil => exact absurd ⟨rfl, rfl⟩ h0
          | cons => simp
        | cons => simp; omega
      have hpos' : (0 : Int) < (a'.length : Int) + (b'.length : Int) := by omega
      obtain ⟨m, hm⟩ : ∃ m, gk = m + 1 := ⟨gk - 1, by have := HI.out.le; omega⟩
      subst hm
      clear h0
      have hcda := HI.out.ra.le
      have hcdb := HI.out.rb.le
      go_upto_block 2 with (fail)
      go_cut [4] (fun v4 wc => ∃ (p : ByteArray) (a2 b2 : List Fl) (A2 B2 : Option Addr) (c2 d2 : Nat), v4 = .string p ∧ a2.length ≤ 1000000 ∧ b2.length ≤ 1000000 ∧ Hid (Yl wb wc ba bb a' b' a2 b2 p A2 B2 c2 d2) ∧ Hid (Ch (Two2 ba bb) wr wc))
      case first =>
        cases a' with
        | nil =>
          cases b' with
          | nil => simp at hpos
          | cons y b1 =>
            obtain ⟨ady, hady, qy⟩ := file_head (HI.out.rb.ch HI.out.base)
            subst hady
            obtain ⟨By, hsy, hry⟩ := file_tail (some ady) d' y b1
            have q0 : wr.cell? ⟨ba, 0, none⟩ = some (.slice A' 0 c') := hc0
            have q1 : wr.cell? ⟨bb, 0, none⟩ = some (.slice (some ady) (b1.length + 1) d') := hc1
            have hb0 : (((b1.length : Int) + 1) == 0) = false := by rw [beq_eq_false_iff_ne]; omega
            have hi1 : (0 : Int) < (b1.length : Int) + 1 := by omega
            simp only [List.length_cons] at hlb' hcdb
            clear hc0 hc1 hpos hpos'
            go_wp2_with fail
            go_quiet (fail)
            go_wp2_with fail
            go_quiet (fail)
            go_wp2_with fail
            refine wp_region_tail (G := gds [Gd.is ?pr6v0, Gd.is ?pr6v1, Gd.is ?pr6v2, Gd.is ?pr6v3, Gd.is ?pr6v4, Gd.is ?pr6v5, Gd.is ?pr6v6]) 7 (by kernel_rfl) (by kernel_rfl) rfl (by kernel_rfl) gds_st ?pobl6 ?pfin6
            case pobl6 =>
              simp only [Obls, and_true, List.take_succ_cons, List.take_zero]
              refine ⟨?_, ?_, ?_, ?_, ?_, ?_, ?_⟩
              · intro vs W hW hd
                simp only [fill, List.setIfInBounds_toArray, List.set_cons_zero, List.set_cons_succ]
                clear hd
                have hWW := (Ch.refl no _).drew.same hW
                have k0 := cell_ch hWW q0
                have k1 := cell_ch hWW q1
                have k2 := cell_ch hWW qy
                go_wp2_with (fail)
                refine ⟨rfl, rfl, Ch.refl _ _, gds_is rfl ?_⟩
                (conv => lhs; whnf)
              · intro vs W hW hd
                simp only [fill, List.setIfInBounds_toArray, List.set_cons_zero, List.set_cons_succ]
                have d0 := gds_at rfl (hd ⟨0, .data⟩ (by simp) rfl)
                rw [d0]
                clear hd d0
                go_wp2_with (fail)
                refine ⟨rfl, rfl, Ch.refl _ _, gds_is rfl ?_⟩
                (conv => lhs; whnf)
              · intro vs W hW hd
                simp only [fill, List.setIfInBounds_toArray, List.set_cons_zero, List.set_cons_succ]
                have d1 := gds_at rfl (hd ⟨1, .data⟩ (by simp) rfl)
                rw [d1]
                clear hd d1
                go_wp2_with (fail)
                refine ⟨rfl, rfl, Ch.refl _ _, gds_is rfl ?_⟩
                (conv => lhs; whnf)
              · intro vs W hW hd
                simp only [fill, List.setIfInBounds_toArray, List.set_cons_zero, List.set_cons_succ]
                have d2 := gds_at rfl (hd ⟨2, .data⟩ (by simp) rfl)
                rw [d2]
                clear hd d2
                have hWW := (Ch.refl no _).drew.same hW
                have k0 := cell_ch hWW q0
                have k1 := cell_ch hWW q1
                have k2 := cell_ch hWW qy
                go_wp2_with (fail)
                refine ⟨rfl, rfl, Ch.refl _ _, gds_is rfl ?_⟩
                (conv => lhs; whnf)
              · intro vs W hW hd
                simp only [fill, List.setIfInBounds_toArray, List.set_cons_zero, List.set_cons_succ]
                clear hd
                have hWW := (Ch.refl no _).drew.same hW
                have k0 := cell_ch hWW q0
                have k1 := cell_ch hWW q1
                have k2 := cell_ch hWW qy
                go_wp2_with (fail)
                refine ⟨rfl, rfl, Ch.refl _ _, gds_is rfl ?_⟩
                (conv => lhs; whnf)
              · intro vs W hW hd
                simp only [fill, List.setIfInBounds_toArray, List.set_cons_zero, List.set_cons_succ]
                have d4 := gds_at rfl (hd ⟨4, .data⟩ (by simp) rfl)
                rw [d4]
                clear hd d4
                go_wp2_with (fail)
                refine ⟨rfl, rfl, Ch.refl _ _, gds_is rfl ?_⟩
                (conv => lhs; whnf)
              · intro vs W hW hd
                simp only [fill, List.setIfInBounds_toArray, List.set_cons_zero, List.set_cons_succ]
                have d3 := gds_at rfl (hd ⟨3, .data⟩ (by simp) rfl)
                rw [d3]
                clear hd d3
                go_wp2_with (fail)
                refine ⟨rfl, rfl, Ch.refl _ _, gds_is rfl ?_⟩
                (conv => lhs; whnf)
            case pfin6 =>
              intro vs W hW hd
              simp only [fill, List.setIfInBounds_toArray, List.set_cons_zero, List.set_cons_succ, List.take_succ_cons, List.take_zero, List.drop_succ_cons, List.drop_zero]
              have d0 := gds_at rfl (hd 0 (by omega))
              have d1 := gds_at rfl (hd 1 (by omega))
              have d2 := gds_at rfl (hd 2 (by omega))
              have d3 := gds_at rfl (hd 3 (by omega))
              have d4 := gds_at rfl (hd 4 (by omega))
              have d5 := gds_at rfl (hd 5 (by omega))
              have d6 := gds_at rfl (hd 6 (by omega))
              rw [d0, d1, d2, d3, d4, d5, d6]
              clear hd d0 d1 d2 d3 d4 d5 d6
              have hWW : Ch no wr W := ((((Ch.refl no wr).drewN _).drewN _).drew.same hW)
              have HBA := Lib.hid (hWW.blk HI.out.ba (no_not _)); have HBB := Lib.hid (hWW.blk HI.out.bb (no_not _))
              have kc := (bCell HBB.out 0).trans rfl
              have kf := bFree HBB.out 0
              have HWW := Lib.hid hWW
              clear hWW hW
              go_wp2_with fail
              go_meet
              exact ⟨y.path, [], b1, _, By, c', d' - 1, rfl, hla', by simp at hlb'; omega, Lib.hid ⟨by rw [pathsL], by simp only [List.length_nil, List.length_cons]; omega, (Ch.set1 W bb 0 _).blk HBA.out hne, bSet HBB.out 0 (.slice By b1.length (d' - 1)), HI.out.ra, hry _ HI.out.rb⟩, Lib.hid ((HWW.out.mono (fun _ h => h.elim)).same ((Ch.set1 W bb 0 (.slice By b1.length (d' - 1))).mono (fun k h => .inr h)))⟩
        | cons x a1 =>
          obtain ⟨adx, hadx, qx⟩ := file_head (HI.out.ra.ch HI.out.base)
          subst hadx
          obtain ⟨Ax, hsx, hrx⟩ := file_tail (some adx) c' x a1
          cases b' with
          | nil =>
            have q0 : wr.cell? ⟨ba, 0, none⟩ = some (.slice (some adx) (a1.length + 1) c') := hc0
            have q1 : wr.cell? ⟨bb, 0, none⟩ = some (.slice B' 0 d') := hc1
            have hi1 : (0 : Int) < (a1.length : Int) + 1 := by omega
            simp only [List.length_cons] at hla' hcda
            clear hc0 hc1 hpos hpos'
            go_wp2_with fail
            go_quiet (fail)
            go_wp2_with fail
            refine wp_region_tail (G := gds [Gd.is ?qr4v0, Gd.is ?qr4v1, Gd.is ?qr4v2, Gd.is ?qr4v3, Gd.is ?qr4v4, Gd.is ?qr4v5, Gd.is ?qr4v6]) 7 (by kernel_rfl) (by kernel_rfl) rfl (by kernel_rfl) gds_st ?qobl4 ?qfin4
            case qobl4 =>
              simp only [Obls, and_true, List.take_succ_cons, List.take_zero]
              refine ⟨?_, ?_, ?_, ?_, ?_, ?_, ?_⟩
              · intro vs W hW hd
                simp only [fill, List.setIfInBounds_toArray, List.set_cons_zero, List.set_cons_succ]
                clear hd
                have hWW := (Ch.refl no _).drew.same hW
                have k0 := cell_ch hWW q0
                have k1 := cell_ch hWW q1
                have k2 := cell_ch hWW qx
                go_wp2_with (fail)
                refine ⟨rfl, rfl, Ch.refl _ _, gds_is rfl ?_⟩
                (conv => lhs; whnf)
              · intro vs W hW hd
                simp only [fill, List.setIfInBounds_toArray, List.set_cons_zero, List.set_cons_succ]
                have d0 := gds_at rfl (hd ⟨0, .data⟩ (by simp) rfl)
                rw [d0]
                clear hd d0
                go_wp2_with (fail)
                refine ⟨rfl, rfl, Ch.refl _ _, gds_is rfl ?_⟩
                (conv => lhs; whnf)
              · intro vs W hW hd
                simp only [fill, List.setIfInBounds_toArray, List.set_cons_zero, List.set_cons_succ]
                have d1 := gds_at rfl (hd ⟨1, .data⟩ (by simp) rfl)
                rw [d1]
                clear hd d1
                go_wp2_with (fail)
                refine ⟨rfl, rfl, Ch.refl _ _, gds_is rfl ?_⟩
                (conv => lhs; whnf)
              · intro vs W hW hd
                simp only [fill, List.setIfInBounds_toArray, List.set_cons_zero, List.set_cons_succ]
                have d2 := gds_at rfl (hd ⟨2, .data⟩ (by simp) rfl)
                rw [d2]
                clear hd d2
                have hWW := (Ch.refl no _).drew.same hW
                have k0 := cell_ch hWW q0
                have k1 := cell_ch hWW q1
                have k2 := cell_ch hWW qx
                go_wp2_with (fail)
                refine ⟨rfl, rfl, Ch.refl _ _, gds_is rfl ?_⟩
                (conv => lhs; whnf)
              · intro vs W hW hd
                simp only [fill, List.setIfInBounds_toArray, List.set_cons_zero, List.set_cons_succ]
                clear hd
                have hWW := (Ch.refl no _).drew.same hW
                have k0 := cell_ch hWW q0
                have k1 := cell_ch hWW q1
                have k2 := cell_ch hWW qx
                go_wp2_with (fail)
                refine ⟨rfl, rfl, Ch.refl _ _, gds_is rfl ?_⟩
                (conv => lhs; whnf)
              · intro vs W hW hd
                simp only [fill, List.setIfInBounds_toArray, List.set_cons_zero, List.set_cons_succ]
                have d4 := gds_at rfl (hd ⟨4, .data⟩ (by simp) rfl)
                rw [d4]
                clear hd d4
                go_wp2_with (fail)
                refine ⟨rfl, rfl, Ch.refl _ _, gds_is rfl ?_⟩
                (conv => lhs; whnf)
              · intro vs W hW hd
                simp only [fill, List.setIfInBounds_toArray, List.set_cons_zero, List.set_cons_succ]
                have d3 := gds_at rfl (hd ⟨3, .data⟩ (by simp) rfl)
                rw [d3]
                clear hd d3
                go_wp2_with (fail)
                refine ⟨rfl, rfl, Ch.refl _ _, gds_is rfl ?_⟩
                (conv => lhs; whnf)
            case qfin4 =>
              intro vs W hW hd
              simp only [fill, List.setIfInBounds_toArray, List.set_cons_zero, List.set_cons_succ, List.take_succ_cons, List.take_zero, List.drop_succ_cons, List.drop_zero]
              have d0 := gds_at rfl (hd 0 (by omega))
              have d1 := gds_at rfl (hd 1 (by omega))
              have d2 := gds_at rfl (hd 2 (by omega))
              have d3 := gds_at rfl (hd 3 (by omega))
              have d4 := gds_at rfl (hd 4 (by omega))
              have d5 := gds_at rfl (hd 5 (by omega))
              have d6 := gds_at rfl (hd 6 (by omega))
              rw [d0, d1, d2, d3, d4, d5, d6]
              clear hd d0 d1 d2 d3 d4 d5 d6
              have hWW : Ch no wr W := (((Ch.refl no wr).drewN _).drew.same hW)
              have HBA := Lib.hid (hWW.blk HI.out.ba (no_not _)); have HBB := Lib.hid (hWW.blk HI.out.bb (no_not _))
              have kc := (bCell HBA.out 0).trans rfl
              have kf := bFree HBA.out 0
              have HWW := Lib.hid hWW
              clear hWW hW
              go_wp2_with fail
              go_meet
              exact ⟨x.path, a1, [], Ax, _, c' - 1, d', rfl, by simp at hla'; omega, hlb', Lib.hid ⟨by rw [pathsL], by simp, bSet HBA.out 0 (.slice Ax a1.length (c' - 1)), (Ch.set1 W ba 0 _).blk HBB.out (fun h => hne h.symm), hrx _ HI.out.ra, HI.out.rb⟩, Lib.hid ((HWW.out.mono (fun _ h => h.elim)).same ((Ch.set1 W ba 0 (.slice Ax a1.length (c' - 1))).mono (fun k h => .inl h)))⟩
          | cons y b1 =>
            obtain ⟨ady, hady, qy⟩ := file_head (HI.out.rb.ch HI.out.base)
            subst hady
            obtain ⟨By, hsy, hry⟩ := file_tail (some ady) d' y b1
            have q0 : wr.cell? ⟨ba, 0, none⟩ = some (.slice (some adx) (a1.length + 1) c') := hc0
            have q1 : wr.cell? ⟨bb, 0, none⟩ = some (.slice (some ady) (b1.length + 1) d') := hc1
            have ha0 : (((a1.length : Int) + 1) == 0) = false := by rw [beq_eq_false_iff_ne]; omega
            have hb0 : (((b1.length : Int) + 1) == 0) = false := by rw [beq_eq_false_iff_ne]; omega
            have hi1 : (0 : Int) < (b1.length : Int) + 1 := by omega
            have hi2 : (0 : Int) < (a1.length : Int) + 1 := by omega
            simp only [List.length_cons] at hlb' hla' hcda hcdb
            clear hc0 hc1 hpos hpos'
            cases hxy : less x.path y.path with
            | true =>
              have t1 : Op.bytesLess x.path.toList y.path.toList = true := hxy
              have HXY := Lib.hid hxy
              clear hxy
              go_wp2_with fail
              go_quiet (fail)
              go_wp2_with fail
              refine wp_region_tail (G := gds [Gd.is ?rr4v0, Gd.is ?rr4v1, Gd.is ?rr4v2, Gd.is ?rr4v3, Gd.is ?rr4v4, Gd.is ?rr4v5, Gd.is ?rr4v6]) 7 (by kernel_rfl) (by kernel_rfl) rfl (by kernel_rfl) gds_st ?robl4 ?rfin4
              case robl4 =>
                simp only [Obls, and_true, List.take_succ_cons, List.take_zero]
                refine ⟨?_, ?_, ?_, ?_, ?_, ?_, ?_⟩
                · intro vs W hW hd
                  simp only [fill, List.setIfInBounds_toArray, List.set_cons_zero, List.set_cons_succ]
                  clear hd
                  have hWW := (Ch.refl no _).drew.same hW
                  have k0 := cell_ch hWW q0
                  have k1 := cell_ch hWW q1
                  have k2 := cell_ch hWW qx
                  go_wp2_with (fail)
                  refine ⟨rfl, rfl, Ch.refl _ _, gds_is rfl ?_⟩
                  (conv => lhs; whnf)
                · intro vs W hW hd
                  simp only [fill, List.setIfInBounds_toArray, List.set_cons_zero, List.set_cons_succ]
                  have d0 := gds_at rfl (hd ⟨0, .data⟩ (by simp) rfl)
                  rw [d0]
                  clear hd d0
                  go_wp2_with (fail)
                  refine ⟨rfl, rfl, Ch.refl _ _, gds_is rfl ?_⟩
                  (conv => lhs; whnf)
                · intro vs W hW hd
                  simp only [fill, List.setIfInBounds_toArray, List.set_cons_zero, List.set_cons_succ]
                  have d1 := gds_at rfl (hd ⟨1, .data⟩ (by simp) rfl)
                  rw [d1]
                  clear hd d1
                  go_wp2_with (fail)
                  refine ⟨rfl, rfl, Ch.refl _ _, gds_is rfl ?_⟩
                  (conv => lhs; whnf)
                · intro vs W hW hd
                  simp only [fill, List.setIfInBounds_toArray, List.set_cons_zero, List.set_cons_succ]
                  have d2 := gds_at rfl (hd ⟨2, .data⟩ (by simp) rfl)
                  rw [d2]
                  clear hd d2
                  have hWW := (Ch.refl no _).drew.same hW
                  have k0 := cell_ch hWW q0
                  have k1 := cell_ch hWW q1
                  have k2 := cell_ch hWW qx
                  go_wp2_with (fail)
                  refine ⟨rfl, rfl, Ch.refl _ _, gds_is rfl ?_⟩
                  (conv => lhs; whnf)
                · intro vs W hW hd
                  simp only [fill, List.setIfInBounds_toArray, List.set_cons_zero, List.set_cons_succ]
                  clear hd
                  have hWW := (Ch.refl no _).drew.same hW
                  have k0 := cell_ch hWW q0
                  have k1 := cell_ch hWW q1
                  have k2 := cell_ch hWW qx
                  go_wp2_with (fail)
                  refine ⟨rfl, rfl, Ch.refl _ _, gds_is rfl ?_⟩
                  (conv => lhs; whnf)
                · intro vs W hW hd
                  simp only [fill, List.setIfInBounds_toArray, List.set_cons_zero, List.set_cons_succ]
                  have d4 := gds_at rfl (hd ⟨4, .data⟩ (by simp) rfl)
                  rw [d4]
                  clear hd d4
                  go_wp2_with (fail)
                  refine ⟨rfl, rfl, Ch.refl _ _, gds_is rfl ?_⟩
                  (conv => lhs; whnf)
                · intro vs W hW hd
                  simp only [fill, List.setIfInBounds_toArray, List.set_cons_zero, List.set_cons_succ]
                  have d3 := gds_at rfl (hd ⟨3, .data⟩ (by simp) rfl)
                  rw [d3]
                  clear hd d3
                  go_wp2_with (fail)
                  refine ⟨rfl, rfl, Ch.refl _ _, gds_is rfl ?_⟩
                  (conv => lhs; whnf)
              case rfin4 =>
                intro vs W hW hd
                simp only [fill, List.setIfInBounds_toArray, List.set_cons_zero, List.set_cons_succ, List.take_succ_cons, List.take_zero, List.drop_succ_cons, List.drop_zero]
                have d0 := gds_at rfl (hd 0 (by omega))
                have d1 := gds_at rfl (hd 1 (by omega))
                have d2 := gds_at rfl (hd 2 (by omega))
                have d3 := gds_at rfl (hd 3 (by omega))
                have d4 := gds_at rfl (hd 4 (by omega))
                have d5 := gds_at rfl (hd 5 (by omega))
                have d6 := gds_at rfl (hd 6 (by omega))
                rw [d0, d1, d2, d3, d4, d5, d6]
                clear hd d0 d1 d2 d3 d4 d5 d6
                have hWW : Ch no wr W := (((Ch.refl no wr).drewN _).drew.same hW)
                have HBA := Lib.hid (hWW.blk HI.out.ba (no_not _)); have HBB := Lib.hid (hWW.blk HI.out.bb (no_not _))
                have kc := (bCell HBA.out 0).trans rfl
                have kf := bFree HBA.out 0
                have HWW := Lib.hid hWW
                clear hWW hW
                go_wp2_with fail
                go_meet
                exact ⟨x.path, a1, (y :: b1), Ax, _, c' - 1, d', rfl, by simp at hla'; omega, hlb', Lib.hid ⟨by rw [pathsL, if_pos HXY.out], by simp, bSet HBA.out 0 (.slice Ax a1.length (c' - 1)), (Ch.set1 W ba 0 _).blk HBB.out (fun h => hne h.symm), hrx _ HI.out.ra, HI.out.rb⟩, Lib.hid ((HWW.out.mono (fun _ h => h.elim)).same ((Ch.set1 W ba 0 (.slice Ax a1.length (c' - 1))).mono (fun k h => .inl h)))⟩
            | false =>
              have t1 : Op.bytesLess x.path.toList y.path.toList = false := hxy
              have HXY := Lib.hid hxy
              clear hxy
              cases hyx : less y.path x.path with
              | true =>
                have t2 : Op.bytesLess y.path.toList x.path.toList = true := hyx
                have HYX := Lib.hid hyx
                clear hyx
                go_wp2_with fail
                go_quiet (fail)
                go_wp2_with fail
                go_quiet (fail)
                go_wp2_with fail
                refine wp_region_tail (G := gds [Gd.is ?sr6v0, Gd.is ?sr6v1, Gd.is ?sr6v2, Gd.is ?sr6v3, Gd.is ?sr6v4, Gd.is ?sr6v5, Gd.is ?sr6v6]) 7 (by kernel_rfl) (by kernel_rfl) rfl (by kernel_rfl) gds_st ?sobl6 ?sfin6
                case sobl6 =>
                  simp only [Obls, and_true, List.take_succ_cons, List.take_zero]
                  refine ⟨?_, ?_, ?_, ?_, ?_, ?_, ?_⟩
                  · intro vs W hW hd
                    simp only [fill, List.setIfInBounds_toArray, List.set_cons_zero, List.set_cons_succ]
                    clear hd
                    have hWW := (Ch.refl no _).drew.same hW
                    have k0 := cell_ch hWW q0
                    have k1 := cell_ch hWW q1
                    have k2 := cell_ch hWW qy
                    go_wp2_with (fail)
                    refine ⟨rfl, rfl, Ch.refl _ _, gds_is rfl ?_⟩
                    (conv => lhs; whnf)
                  · intro vs W hW hd
                    simp only [fill, List.setIfInBounds_toArray, List.set_cons_zero, List.set_cons_succ]
                    have d0 := gds_at rfl (hd ⟨0, .data⟩ (by simp) rfl)
                    rw [d0]
                    clear hd d0
                    go_wp2_with (fail)
                    refine ⟨rfl, rfl, Ch.refl _ _, gds_is rfl ?_⟩
                    (conv => lhs; whnf)
                  · intro vs W hW hd
                    simp only [fill, List.setIfInBounds_toArray, List.set_cons_zero, List.set_cons_succ]
                    have d1 := gds_at rfl (hd ⟨1, .data⟩ (by simp) rfl)
                    rw [d1]
                    clear hd d1
                    go_wp2_with (fail)
                    refine ⟨rfl, rfl, Ch.refl _ _, gds_is rfl ?_⟩
                    (conv => lhs; whnf)
                  · intro vs W hW hd
                    simp only [fill, List.setIfInBounds_toArray, List.set_cons_zero, List.set_cons_succ]
                    have d2 := gds_at rfl (hd ⟨2, .data⟩ (by simp) rfl)
                    rw [d2]
                    clear hd d2
                    have hWW := (Ch.refl no _).drew.same hW
                    have k0 := cell_ch hWW q0
                    have k1 := cell_ch hWW q1
                    have k2 := cell_ch hWW qy
                    go_wp2_with (fail)
                    refine ⟨rfl, rfl, Ch.refl _ _, gds_is rfl ?_⟩
                    (conv => lhs; whnf)
                  · intro vs W hW hd
                    simp only [fill, List.setIfInBounds_toArray, List.set_cons_zero, List.set_cons_succ]
                    clear hd
                    have hWW := (Ch.refl no _).drew.same hW
                    have k0 := cell_ch hWW q0
                    have k1 := cell_ch hWW q1
                    have k2 := cell_ch hWW qy
                    go_wp2_with (fail)
                    refine ⟨rfl, rfl, Ch.refl _ _, gds_is rfl ?_⟩
                    (conv => lhs; whnf)
                  · intro vs W hW hd
                    simp only [fill, List.setIfInBounds_toArray, List.set_cons_zero, List.set_cons_succ]
                    have d4 := gds_at rfl (hd ⟨4, .data⟩ (by simp) rfl)
                    rw [d4]
                    clear hd d4
                    go_wp2_with (fail)
                    refine ⟨rfl, rfl, Ch.refl _ _, gds_is rfl ?_⟩
                    (conv => lhs; whnf)
                  · intro vs W hW hd
                    simp only [fill, List.setIfInBounds_toArray, List.set_cons_zero, List.set_cons_succ]
                    have d3 := gds_at rfl (hd ⟨3, .data⟩ (by simp) rfl)
                    rw [d3]
                    clear hd d3
                    go_wp2_with (fail)
                    refine ⟨rfl, rfl, Ch.refl _ _, gds_is rfl ?_⟩
                    (conv => lhs; whnf)
                case sfin6 =>
                  intro vs W hW hd
                  simp only [fill, List.setIfInBounds_toArray, List.set_cons_zero, List.set_cons_succ, List.take_succ_cons, List.take_zero, List.drop_succ_cons, List.drop_zero]
                  have d0 := gds_at rfl (hd 0 (by omega))
                  have d1 := gds_at rfl (hd 1 (by omega))
                  have d2 := gds_at rfl (hd 2 (by omega))
                  have d3 := gds_at rfl (hd 3 (by omega))
                  have d4 := gds_at rfl (hd 4 (by omega))
                  have d5 := gds_at rfl (hd 5 (by omega))
                  have d6 := gds_at rfl (hd 6 (by omega))
                  rw [d0, d1, d2, d3, d4, d5, d6]
                  clear hd d0 d1 d2 d3 d4 d5 d6
                  have hWW : Ch no wr W := ((((Ch.refl no wr).drewN _).drewN _).drew.same hW)
                  have HBA := Lib.hid (hWW.blk HI.out.ba (no_not _)); have HBB := Lib.hid (hWW.blk HI.out.bb (no_not _))
                  have kc := (bCell HBB.out 0).trans rfl
                  have kf := bFree HBB.out 0
                  have HWW := Lib.hid hWW
                  clear hWW hW
                  go_wp2_with fail
                  go_meet
                  exact ⟨y.path, (x :: a1), b1, _, By, c', d' - 1, rfl, hla', by simp at hlb'; omega, Lib.hid ⟨by rw [pathsL, if_neg (by rw [HXY.out]; simp), if_pos HYX.out], by simp only [List.length_nil, List.length_cons]; omega, (Ch.set1 W bb 0 _).blk HBA.out hne, bSet HBB.out 0 (.slice By b1.length (d' - 1)), HI.out.ra, hry _ HI.out.rb⟩, Lib.hid ((HWW.out.mono (fun _ h => h.elim)).same ((Ch.set1 W bb 0 (.slice By b1.length (d' - 1))).mono (fun k h => .inr h)))⟩
              | false =>
                have t2 : Op.bytesLess y.path.toList x.path.toList = false := hyx
                have HYX := Lib.hid hyx
                clear hyx
                go_wp2_with fail
                go_quiet (fail)
                go_wp2_with fail
                go_quiet (fail)
                go_wp2_with fail
                refine wp_world (fun X => Hid (Ch no wr X)) (Lib.hid (((Ch.refl no wr).drewN _).drewN _)) ?_
                intro W0 HW0
                have k0 := cell_ch HW0.out.drew q0; have k1 := cell_ch HW0.out.drew q1; have kx := cell_ch HW0.out.drew qx
                have j1 := cell_ch HW0.out q1
                have kb0 := bFree (HW0.out.drew.blk HI.out.ba (no_not _)) 0; have kb1 := bFree (HW0.out.drew.blk HI.out.bb (no_not _)) 0
                clear q0 q1 qx qy
                refine wp_region_fixed (fun i => [Value.slice (some adx) (a1.length + 1) c', .pointer (some adx), .pointer (some adx), .string x.path, .slice (some adx) (a1.length + 1) c', .slice Ax a1.length (c' - 1), .slice (some ady) (b1.length + 1) d', .slice By b1.length (d' - 1), .string x.path].getD i undef)
                  (wd2 W0.drew 9 10 ⟨ba, 0, none⟩ ⟨bb, 0, none⟩ (.slice Ax a1.length (c' - 1)) (.slice By b1.length (d' - 1))) (by kernel_rfl) (by kernel_rfl) rfl ?_ ?_
                · simp only [OblsF, and_true]
                  refine ⟨?_, ?_, ?_, ?_, ?_, ?_, ?_, ?_, ?_, ?_, ?_⟩
                  · intro D hcl hk hd
                    have e9 := hcl.no 9 0 (by kernel_rfl) hk
                    have e10 := hcl.no 10 0 (by kernel_rfl) hk
                    rw [wd2_none e9 e10, wd2_also e9 e10 (by omega) (by omega)]
                    simp only [fill, List.setIfInBounds_toArray, List.set_cons_zero, List.set_cons_succ]
                    clear hcl hk hd e9 e10
                    go_wp2_with fail
                    exact ⟨rfl, rfl, fun _ => rfl, rfl⟩
                  · intro D hcl hk hd
                    have e9 := hcl.no 9 1 (by kernel_rfl) hk
                    have e10 := hcl.no 10 1 (by kernel_rfl) hk
                    rw [wd2_none e9 e10, wd2_also e9 e10 (by omega) (by omega)]
                    simp only [fill, List.setIfInBounds_toArray, List.set_cons_zero, List.set_cons_succ]
                    clear hcl hk hd e9 e10
                    go_wp2_with fail
                    exact ⟨rfl, rfl, fun _ => rfl, rfl⟩
                  · intro D hcl hk hd
                    have e9 := hcl.no 9 2 (by kernel_rfl) hk
                    have e10 := hcl.no 10 2 (by kernel_rfl) hk
                    rw [wd2_none e9 e10, wd2_also e9 e10 (by omega) (by omega)]
                    simp only [fill, List.setIfInBounds_toArray, List.set_cons_zero, List.set_cons_succ]
                    clear hcl hk hd e9 e10
                    go_wp2_with fail
                    exact ⟨rfl, rfl, fun _ => rfl, rfl⟩
                  · intro D hcl hk hd
                    have e9 := hcl.no 9 3 (by kernel_rfl) hk
                    have e10 := hcl.no 10 3 (by kernel_rfl) hk
                    rw [wd2_none e9 e10, wd2_also e9 e10 (by omega) (by omega)]
                    simp only [fill, List.setIfInBounds_toArray, List.set_cons_zero, List.set_cons_succ]
                    clear hcl hk hd e9 e10
                    go_wp2_with fail
                    exact ⟨rfl, rfl, fun _ => rfl, rfl⟩
                  · intro D hcl hk hd
                    have e9 := hcl.no 9 4 (by kernel_rfl) hk
                    have e10 := hcl.no 10 4 (by kernel_rfl) hk
                    rw [wd2_none e9 e10, wd2_also e9 e10 (by omega) (by omega)]
                    simp only [fill, List.setIfInBounds_toArray, List.set_cons_zero, List.set_cons_succ]
                    clear hcl hk hd e9 e10
                    go_wp2_with fail
                    exact ⟨rfl, rfl, fun _ => rfl, rfl⟩
                  · intro D hcl hk hd
                    have e9 := hcl.no 9 5 (by kernel_rfl) hk
                    have e10 := hcl.no 10 5 (by kernel_rfl) hk
                    rw [wd2_none e9 e10, wd2_also e9 e10 (by omega) (by omega)]
                    simp only [fill, List.setIfInBounds_toArray, List.set_cons_zero, List.set_cons_succ]
                    clear hcl hk hd e9 e10
                    go_wp2_with fail
                    exact ⟨rfl, rfl, fun _ => rfl, rfl⟩
                  · intro D hcl hk hd
                    have e10 := hcl.no 10 6 (by kernel_rfl) hk
                    simp only [fill, List.setIfInBounds_toArray, List.set_cons_zero, List.set_cons_succ]
                    cases e9 : D 9 with
                    | false =>
                      rw [wd2_none e9 e10, wd2_also e9 e10 (by omega) (by omega)]
                      clear hcl hk hd e9 e10
                      go_wp2_with fail
                      exact ⟨rfl, rfl, fun _ => rfl, rfl⟩
                    | true =>
                      rw [wd2_first e9 e10, wd2_first_also e9 e10 (by omega) (by omega)]
                      have q3 := set_far (a := ⟨ba, 0, none⟩) (v := .slice Ax a1.length (c' - 1)) j1 (fun h => hne h.symm)
                      clear hcl hk hd e9 e10
                      go_wp2_with fail
                      exact ⟨rfl, rfl, fun _ => rfl, rfl⟩
                  · intro D hcl hk hd
                    have e10 := hcl.no 10 7 (by kernel_rfl) hk
                    simp only [fill, List.setIfInBounds_toArray, List.set_cons_zero, List.set_cons_succ]
                    cases e9 : D 9 with
                    | false =>
                      rw [wd2_none e9 e10, wd2_also e9 e10 (by omega) (by omega)]
                      clear hcl hk hd e9 e10
                      go_wp2_with fail
                      exact ⟨rfl, rfl, fun _ => rfl, rfl⟩
                    | true =>
                      rw [wd2_first e9 e10, wd2_first_also e9 e10 (by omega) (by omega)]
                      have q3 := set_far (a := ⟨ba, 0, none⟩) (v := .slice Ax a1.length (c' - 1)) j1 (fun h => hne h.symm)
                      clear hcl hk hd e9 e10
                      go_wp2_with fail
                      exact ⟨rfl, rfl, fun _ => rfl, rfl⟩
                  · intro D hcl hk hd
                    have e9 := hcl.no 9 8 (by kernel_rfl) hk
                    have e10 := hcl.no 10 8 (by kernel_rfl) hk
                    rw [wd2_none e9 e10, wd2_also e9 e10 (by omega) (by omega)]
                    simp only [fill, List.setIfInBounds_toArray, List.set_cons_zero, List.set_cons_succ]
                    clear hcl hk hd e9 e10
                    go_wp2_with fail
                    exact ⟨rfl, rfl, fun _ => rfl, rfl⟩
                  · intro D hcl hk hd
                    have e10 := hcl.no 10 9 (by kernel_rfl) hk
                    rw [wd2_none hk e10, wd2_i e10 (by omega)]
                    simp only [fill, List.setIfInBounds_toArray, List.set_cons_zero, List.set_cons_succ]
                    clear hcl hk hd e10
                    go_wp2_with fail
                    exact ⟨rfl, rfl, fun h => absurd rfl h, rfl⟩
                  · intro D hcl hk hd
                    have e9 : D 9 = true := hd ⟨9, .chain⟩ (by simp) rfl
                    rw [wd2_first e9 hk, wd2_j e9 (by omega)]
                    have q3 := set_far (a := ⟨ba, 0, none⟩) (v := .slice Ax a1.length (c' - 1)) j1 (fun h => hne h.symm)
                    have q4 := bFree ((Ch.set1 W0 ba 0 (.slice Ax a1.length (c' - 1))).blk (HW0.out.blk HI.out.bb (no_not _)) (fun h => hne h.symm)) 0
                    simp only [fill, List.setIfInBounds_toArray, List.set_cons_zero, List.set_cons_succ]
                    clear hcl hk hd e9
                    go_wp2_with fail
                    exact ⟨rfl, rfl, fun h => absurd rfl h, rfl⟩
                · simp only [fill, List.setIfInBounds_toArray, List.set_cons_zero, List.set_cons_succ]
                  show Exit.inBlock _ _ _ _ ((W0.drew.setCell ⟨ba, 0, none⟩ (.slice Ax a1.length (c' - 1))).setCell ⟨bb, 0, none⟩ (.slice By b1.length (d' - 1)))
                  have HBA := Lib.hid (HW0.out.drew.blk HI.out.ba (no_not _)); have HBB := Lib.hid (HW0.out.drew.blk HI.out.bb (no_not _))
                  go_wp2_with fail
                  go_meet
                  have s1 := Ch.set1 W0.drew ba 0 (.slice Ax a1.length (c' - 1))
                  have s2 := Ch.set1 (W0.drew.setCell ⟨ba, 0, none⟩ (.slice Ax a1.length (c' - 1))) bb 0 (.slice By b1.length (d' - 1))
                  exact ⟨x.path, a1, b1, Ax, By, c' - 1, d' - 1, rfl, by omega, by omega, Lib.hid ⟨by rw [pathsL, if_neg (by rw [HXY.out]; simp), if_neg (by rw [HYX.out]; simp)], by simp; omega, s2.blk (bSet HBA.out 0 _) hne, bSet (s1.blk HBB.out (fun h => hne h.symm)) 0 _, hrx _ HI.out.ra, hry _ HI.out.rb⟩, Lib.hid (((HW0.out.drew.mono (fun _ h => h.elim)).same (s1.mono (fun k h => .inl h))).same (s2.mono (fun k h => .inr h)))⟩
      case rest =>
        obtain ⟨p, a2, b2, A2, B2, c2, d2, rfl, ha2, hb2, HYL, HCC⟩ := hcut
        clear hc0 hc1 hpos hpos' hcda hcdb
        have hxs := HI.out.eq
        rw [HYL.out.eq] at hxs
        have hj : J pre wc := HJ.out _ _ _ HI.out.j HCC.out
        obtain ⟨fn, tmps, assign, body, hy, hR⟩ := HY.out pre p wc hj ⟨_, hxs⟩
        have HXS := Lib.hid hxs
        clear hxs hj
        go_upto_region 7 with (fail)
        refine (wpIn_wide (n := n)).1 ?_
        gi_wp2_with fail
        refine ⟨fun h => (by simp [Fence.wide] at h), hR.mono ?_⟩
        rintro e W3 ⟨rfl, hJ3, hU3⟩
        have HJ3 := Lib.hid hJ3; have HU3 := Lib.hid hU3
        clear hJ3 hU3 hR hy
        gi_wp2_with fail
        go_wp2_with fail
        trace_state
        go_roundg m
        case rel =>
          refine ⟨a2, b2, A2, B2, c2, d2, pre ++ [p], ha2, hb2, Lib.hid ⟨by rw [HXS.out]; simp, by have := HYL.out.lt; have := HI.out.le; omega, HJ3.out, HU3.out.blk HYL.out.ba (fun h => (HU.out _ h).2.1 rfl), HU3.out.blk HYL.out.bb (fun h => (HU.out _ h).2.2 rfl), HYL.out.ra, HYL.out.rb, ?_⟩⟩
          exact Nf.Ch.under (Nf.Ch.under HI.out.base HCC.out (fun k h => by rcases h with h | h <;> omega)) HU3.out (fun k h => (HU.out k h).1)
        case measure => omega

end Go.Proofs.YtekeiieefkgopaaDoor.Bd

