/- The document's answer: how long the longest common subsequence is. -/
import Derived.Test.YtekeiieefkgopaaQf
import Derived.Test.YtekeiieefkgopaaNb
namespace Go.Proofs.Ytekeiieefkgopaa.Qg
open Go.RowKit Go.Proofs.Ytekeiieefkgopaa.Aa Go.Proofs.Ytekeiieefkgopaa.Vw Go.Proofs.Ytekeiieefkgopaa.Ma Go.Proofs.Ytekeiieefkgopaa.Mr Go.Proofs.Ytekeiieefkgopaa.Mb Go.Proofs.Ytekeiieefkgopaa.Me Go.Proofs.Ytekeiieefkgopaa.Mf Go.Proofs.Ytekeiieefkgopaa.Nb Go.Proofs.Ytekeiieefkgopaa.Qf
attribute [local go_sem] mxNat mxOp
set_option linter.unusedVariables false
set_option linter.unusedSimpArgs false

theorem rowV_set {w : World} {r m k : Nat} {g : Nat → Nat} (h : RowT w r m 0 g) (v : Int) (x : Nat) (hv : v = (x : Int)) : RowT (w.setCell ⟨r, k, none⟩ (.int .i64 v)) r m 0 (fun j => if j = k then x else g j) := by
  subst hv
  obtain ⟨rc, hb, h1, h2⟩ := h
  refine ⟨rc.setIfInBounds k (.int .i64 (x : Int)), bSet hb k _, by simpa using h1, fun j hj0 hjm => ?_⟩
  by_cases e : j = k
  · subst e
    rw [Array.getElem?_setIfInBounds_self_of_lt (by omega)]; simp
  · rw [Array.getElem?_setIfInBounds_ne (fun h => e h.symm)]
    simp only [if_neg e]; exact h2 j hj0 hjm
theorem rowV_eq {w : World} {r m : Nat} {g g' : Nat → Nat} (h : RowT w r m 0 g) (he : ∀ j, j ≤ m → g j = g' j) : RowT w r m 0 g' := by
  obtain ⟨rc, hb, h1, h2⟩ := h
  exact ⟨rc, hb, h1, fun j hj0 hjm => by rw [← he j hjm]; exact h2 j hj0 hjm⟩
theorem rowV_new (w : World) (m : Nat) (g : Nat → Nat) (hg : ∀ k, k ≤ m → g k = 0) : RowT (w.alloc (.cells (madeCells #[.int .i64 0] (m + 1)) 3)) w.heap.size m 0 g := by
  refine ⟨_, bNew w _, by simp [size_madeCells], fun k h1 h2 => ?_⟩
  rw [hg k h2]
  have : k < m + 1 := by omega
  simp [madeCells, Nat.mod_one, this]
/-- While a row is made. -/
structure MidP (w0 w : World) (r q m : Nat) (f g : Nat → Nat) : Prop where
  row : RowT w r m 0 f
  nx : RowT w q m 0 g
  ne : r ≠ q
  new : w0.heap.size ≤ q
  ch : Ch no w0 w
theorem MidP.set {w0 w : World} {r q m k : Nat} {f g : Nat → Nat} (h : MidP w0 w r q m f g) (v : Int) (x : Nat) (hv : v = (x : Int)) : MidP w0 (w.setCell ⟨q, k, none⟩ (.int .i64 v)) r q m f (fun j => if j = k then x else g j) :=
  ⟨h.row.ch (Ch.set1 _ q _ _) (fun e : r = q => h.ne e), rowV_set h.nx v x hv, h.ne, h.new, h.ch.set (p := ⟨q, k, none⟩) (.inr h.new) _⟩
theorem MidP.drewN {w0 w : World} {r q m : Nat} {f g : Nat → Nat} (h : MidP w0 w r q m f g) (n : Nat) : MidP w0 (w.drewN n) r q m f g :=
  ⟨h.row.ch ((Ch.refl no w).drewN n) (no_not _), h.nx.ch ((Ch.refl no w).drewN n) (no_not _), h.ne, h.new, h.ch.drewN n⟩
theorem MidP.eq {w0 w : World} {r q m : Nat} {f g g' : Nat → Nat} (h : MidP w0 w r q m f g) (he : ∀ j, j ≤ m → g j = g' j) : MidP w0 w r q m f g' := ⟨h.row, rowV_eq h.nx he, h.ne, h.new, h.ch⟩
def part (f : Nat → Nat) (k : Nat) : Nat → Nat := fun j => if j ≤ k then f j else 0
theorem part_zero (xs ys : List ByteArray) (i k : Nat) : part (tabP xs ys i) 0 k = 0 := by
  unfold part
  split
  · exact tabP_zero _ _ _ _ (.inr (by omega))
  · rfl

set_option maxRecDepth 100000 in
set_option maxHeartbeats 8000000 in
theorem common_of (A B : Option Addr) (c d : Nat) (xs ys : List ByteArray) (w : World) (hx : El.str.Row w A c xs) (hy : El.str.Row w B d ys) (hn : xs.length ≤ 1000000) (hm : ys.length ≤ 1000000) :
    Calls Try.prog 70 #[.slice A xs.length c, .slice B ys.length d] w fun e w' => e = .returned (.int .i64 (lcs xs ys : Nat)) ∧ Ch no w w' := by
  have HX := Lib.hid hx; have HY := Lib.hid hy; clear hx hy
  have hmk2 : ∀ W : World, (Instr.makeSlice 78 (.int .i64 ((ys.length : Int) + 1)) (.int .i64 ((ys.length : Int) + 1))).run Try.prog W = .ok (.slice (some ⟨W.heap.size, 0, none⟩) (ys.length + 1) (ys.length + 1)) (W.alloc (.cells (madeCells #[.int .i64 0] (ys.length + 1)) 3)) := fun W => by
    have := run_make_row' (P := Try.prog) 78 3 (.int .i64 0) 8 Try.underlying78 infoInt rfl .i64 .i64 (ys.length + 1) (by omega) (by omega) W
    simpa using this
  have H0 : Hid (RowT (w.alloc (.cells (madeCells #[.int .i64 0] (ys.length + 1)) 3)) w.heap.size ys.length 0 (tabP xs ys 0)) := rowV_new w ys.length _ (fun k _ => tabP_zero _ _ _ _ (.inl rfl))
  go_enter Try.func70, Try.ntmps70
  go_wp2_with fail
  go_loopw [5, 6] (fun v i wr => ∃ (j r : Nat), j ≤ xs.length ∧ v = .slice (some ⟨r, 0, none⟩) (ys.length + 1) (ys.length + 1) ∧ i = .int .i64 j ∧ Hid (RowT wr r ys.length 0 (tabP xs ys j)) ∧ Hid (Ch no w wr)) (fun _ i _ => xs.length - (intOf i).toNat)
  case atStart => exact ⟨0, w.heap.size, by omega, rfl, rfl, H0, (Ch.refl _ _).alloc _⟩
  case round =>
    obtain ⟨wo, rfl⟩ : ∃ wo : World, wo = wr := ⟨_, rfl⟩
    clear H0
    obtain ⟨j, r, hj, rfl, rfl, HR, HC⟩ := hrel
    by_cases hlt : j < xs.length
    · have HN : Hid (MidP w (wo.alloc (.cells (madeCells #[.int .i64 0] (ys.length + 1)) 3)) r wo.heap.size ys.length (tabP xs ys j) (part (tabP xs ys (j + 1)) 0)) := by
        obtain ⟨rc, hb, _⟩ := HR.out
        exact ⟨HR.out.ch ((Ch.refl no _).alloc _) (no_not _), rowV_new wo ys.length _ (fun k _ => part_zero xs ys (j + 1) k), by have := blk_lt' hb; omega, HC.out.size, HC.out.alloc _⟩
      go_wp2_with fail
      go_loopw [8] (fun i wr => ∃ k : Nat, k ≤ ys.length ∧ i = .int .i64 k ∧ Hid (MidP w wr r wo.heap.size ys.length (tabP xs ys j) (part (tabP xs ys (j + 1)) k))) (fun i _ => ys.length - (intOf i).toNat)
      case atStart => exact ⟨0, by omega, rfl, HN⟩
      case round =>
        clear HN
        obtain ⟨k, hk, rfl, HM⟩ := hrel
        by_cases hk4 : k < ys.length
        · have hk2 : (0 : Int) ≤ (k : Int) := by omega
          have hk3 : (k : Int) < (ys.length : Int) + 1 := by omega
          have hk5 : (0 : Int) ≤ (k : Int) + 1 := by omega
          have hk6 : (k : Int) + 1 < (ys.length : Int) + 1 := by omega
          have hwk : IntKind.i64.wrap ((k : Int) + 1) = (k : Int) + 1 := IntWalk.i64_in _ (by omega)
          have htk : ((k : Int) + 1).toNat = k + 1 := by omega
          have hb3 := tabP_le xs ys j k
          have hwt : IntKind.i64.wrap ((tabP xs ys j k : Nat) + 1 : Int) = (tabP xs ys j k : Nat) + 1 := IntWalk.i64_in _ (by omega)
          have HFACT : ∀ (W : World) (g : Nat → Nat), Hid (MidP w W r wo.heap.size ys.length (tabP xs ys j) g) → (W.cell? ⟨wo.heap.size, k, none⟩ = some (.int .i64 (g k : Nat)) ∧ W.frozen? ⟨wo.heap.size, k + 1, none⟩ = false ∧
              W.cell? ⟨wo.heap.size, k + 1, none⟩ = some (.int .i64 (g (k + 1) : Nat)) ∧ W.cell? ⟨r, k + 1, none⟩ = some (.int .i64 (tabP xs ys j (k + 1) : Nat)) ∧ W.cell? ⟨r, k, none⟩ = some (.int .i64 (tabP xs ys j k : Nat))) := fun W g h =>
            ⟨h.out.nx.cell k (by omega) (by omega), h.out.nx.free _, h.out.nx.cell (k + 1) (by omega) (by omega), h.out.row.cell (k + 1) (by omega) (by omega), h.out.row.cell k (by omega) (by omega)⟩
          obtain ⟨a, rfl, hca⟩ := (HX.out.ch HM.out.ch).flat_at j (by omega)
          obtain ⟨b, rfl, hcb⟩ := (HY.out.ch HM.out.ch).flat_at k (by omega)
          obtain ⟨q1, q2, q3, q4, q5⟩ := HFACT _ _ HM
          have HP1 : Hid (∀ f : Nat → Nat, part f k k = f k) := fun f => by unfold part; rw [if_pos (Nat.le_refl _)]
          rw [HP1.out] at q1
          have HF := Lib.hid HFACT
          have hlt' := hlt
          clear HFACT hca hcb
          by_cases he : xs[j] = ys[k]
          · have HTE := Lib.hid (tabP_eq xs ys j k hlt hk4 he)
            have hbe := beq_yes he
            clear he
            go_wp2_with fail
            go_still_tail 14, (by kernel_rfl)
            show wpList _ _ _ _ _ wr.drew
            go_wp2_with fail
            refine wp_world (fun W => Hid (∃ x : Nat, MidP w W r wo.heap.size ys.length (tabP xs ys j) (fun a => if a = k + 1 then x else part (tabP xs ys (j + 1)) k a))) ⟨_, (HM.out.set _ _ rfl).drewN 1⟩ ?_
            intro W1 HM1
            obtain ⟨x, HM1⟩ := HM1.out
            have HM1 := Lib.hid HM1
            clear q1 q2 q3 q4 q5
            obtain ⟨a', ea, hca⟩ := (HX.out.ch HM1.out.ch).flat_at j (by omega)
            cases ea
            obtain ⟨b', eb, hcb⟩ := (HY.out.ch HM1.out.ch).flat_at k (by omega)
            cases eb
            obtain ⟨q1, q2, q3, q4, q5⟩ := HF.out _ _ HM1
            go_quiet (fail)
            go_wp2_with fail
            go_roundw
            case rel =>
              refine ⟨k + 1, by omega, by go_num, ((HM1.out.drewN _).set _ (tabP xs ys j k + 1) (by omega)).eq (fun a ha => ?_)⟩
              unfold part
              by_cases e : a = k + 1
              · subst e; simp only [if_true]; rw [if_pos (Nat.le_refl _), HTE.out]
              · simp only [if_neg e]
                by_cases h2 : a ≤ k
                · rw [if_pos h2, if_pos (by omega)]
                · rw [if_neg h2, if_neg (by omega)]
            case measure => simp [intOf] <;> omega
          · have HTE := Lib.hid (tabP_ne xs ys j k hlt hk4 he)
            have hbe := beq_no he
            clear he
            go_wp2_with fail
            go_still_tail 14, (by kernel_rfl)
            show wpList _ _ _ _ _ wr.drew
            go_wp2_with fail
            refine wp_world (fun W => Hid (MidP w W r wo.heap.size ys.length (tabP xs ys j) (fun a => if a = k + 1 then max (tabP xs ys (j + 1) k) (tabP xs ys j (k + 1)) else part (tabP xs ys (j + 1)) k a))) ((HM.out.set _ _ rfl).drewN 1) ?_
            intro W1 HM1
            clear q1 q2 q3 q4 q5
            obtain ⟨a', ea, hca⟩ := (HX.out.ch HM1.out.ch).flat_at j (by omega)
            cases ea
            obtain ⟨b', eb, hcb⟩ := (HY.out.ch HM1.out.ch).flat_at k (by omega)
            cases eb
            go_quiet (fail)
            go_wp2_with fail
            go_roundw
            case rel =>
              refine ⟨k + 1, by omega, by go_num, (HM1.out.drewN _).eq (fun a ha => ?_)⟩
              unfold part
              by_cases e : a = k + 1
              · subst e; simp only [if_true]; rw [if_pos (Nat.le_refl _), HTE.out, Nat.max_comm]
              · simp only [if_neg e]
                by_cases h2 : a ≤ k
                · rw [if_pos h2, if_pos (by omega)]
                · rw [if_neg h2, if_neg (by omega)]
            case measure => simp [intOf] <;> omega
        · go_wp2_with fail
          go_roundw
          case rel =>
            refine ⟨j + 1, wo.heap.size, by omega, rfl, by go_num, rowV_eq HM.out.nx (fun a ha => ?_), HM.out.ch⟩
            unfold part; rw [if_pos (by omega)]
          case measure => simp [intOf] <;> omega
    · have e : j = xs.length := by omega
      subst e
      have hq := HR.out.cell ys.length (by omega) (by omega)
      have HALL := Lib.hid (tabP_all xs ys)
      go_wp2_with fail
      go_ret
      exact ⟨by rw [← HALL.out]; rfl, HC.out⟩
end Go.Proofs.Ytekeiieefkgopaa.Qg
