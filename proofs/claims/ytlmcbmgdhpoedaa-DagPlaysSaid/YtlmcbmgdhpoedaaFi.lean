/- The document's graph: levels: walked. -/
import Derived.Test.YtlmcbmgdhpoedaaFh
import Derived.Deep.OwnRows
import Derived.StillTailTactics
namespace Go.Proofs.Ytlmcbmgdhpoedaa.Fi
open Go Go.RowKit Go.Proofs.Ytlmcbmgdhpoedaa.Aa Go.Proofs.Ytlmcbmgdhpoedaa.Vw Go.Proofs.Ytlmcbmgdhpoedaa.Mt Go.Proofs.Ytlmcbmgdhpoedaa.Dn Go.Proofs.Ytlmcbmgdhpoedaa.Da Go.Proofs.Ytlmcbmgdhpoedaa.Db Go.Proofs.Ytlmcbmgdhpoedaa.De Go.Proofs.Ytlmcbmgdhpoedaa.Di Go.Proofs.Ytlmcbmgdhpoedaa.Ds Go.Proofs.Ytlmcbmgdhpoedaa.Du Go.Proofs.Ytlmcbmgdhpoedaa.Fa Go.Proofs.Ytlmcbmgdhpoedaa.Fb Go.Proofs.Ytlmcbmgdhpoedaa.Fc Go.Proofs.Ytlmcbmgdhpoedaa.Fd Go.Proofs.Ytlmcbmgdhpoedaa.Fe
set_option linter.unusedVariables false
set_option linter.unusedSimpArgs false
attribute [local go_sem] mx2 mxOp

/-- Numbers, one turned. -/
def upd (f : Nat → Nat) (i x : Nat) : Nat → Nat := fun j => if j = i then x else f j
theorem upd_eq (f : Nat → Nat) (i x : Nat) : upd f i x i = x := by simp [upd]
theorem upd_ne (f : Nat → Nat) {i j : Nat} (x : Nat) (h : j ≠ i) : upd f i x j = f j := by simp [upd, h]
def idx (L : List Nd) (p : Nm) : Nat := (findN L p).toNat
def lvS (L : List Nd) (i : Nat) (f : Nat → Nat) (p : Nm) : Nat → Nat := upd f i (max (f i) (f (idx L p) + 1))
def lvP (L : List Nd) (i : Nat) (f : Nat → Nat) (ps : List Nm) : Nat → Nat := ps.foldl (lvS L i) f
def lvI (L : List Nd) (f : Nat → Nat) : Nat → (Nat → Nat)
  | 0 => f
  | i + 1 => match L[i]? with
    | some n => if n.inn then lvP L i (lvI L f i) n.par else lvI L f i
    | none => lvI L f i
def lvT (L : List Nd) : Nat → (Nat → Nat)
  | 0 => fun _ => 0
  | t + 1 => lvI L (lvT L t) L.length
/-- Numbers in a block of their own. -/
def RowI (w : World) (g n : Nat) (f : Nat → Nat) : Prop := ∃ rc : Array Value, w.heap[g]? = some (.cells rc 3 (0, 0)) ∧ n ≤ rc.size ∧ ∀ i, i < n → rc[i]? = some (.int .i64 (f i : Nat))
theorem RowI.ch {S : Nat → Prop} {w w' : World} {g n : Nat} {f : Nat → Nat} (h : RowI w g n f) (hc : Ch S w w') (hs : ¬ S g) : RowI w' g n f := by
  obtain ⟨rc, hb, h1, h2⟩ := h
  exact ⟨rc, hc.blk hb hs, h1, h2⟩
theorem RowI.at_ {w : World} {g n : Nat} {f : Nat → Nat} (h : RowI w g n f) (i : Nat) (hi : i < n) : w.cell? ⟨g, i, none⟩ = some (.int .i64 (f i : Nat)) ∧ w.frozen? ⟨g, i, none⟩ = false := by
  obtain ⟨rc, hb, h1, h2⟩ := h
  exact ⟨(bCell hb _).trans (h2 i hi), bFree hb _⟩
theorem RowI.set {w : World} {g n : Nat} {f : Nat → Nat} (h : RowI w g n f) (i x : Nat) : RowI (w.setCell ⟨g, i, none⟩ (.int .i64 (x : Nat))) g n (upd f i x) := by
  obtain ⟨rc, hb, h1, h2⟩ := h
  refine ⟨rc.setIfInBounds i (.int .i64 (x : Nat)), bSet hb i _, by simpa using h1, fun j hj => ?_⟩
  unfold upd
  by_cases e : j = i
  · subst e
    rw [Array.getElem?_setIfInBounds_self_of_lt (by omega)]; simp
  · rw [Array.getElem?_setIfInBounds_ne (fun h => e h.symm)]
    simp only [if_neg e]; exact h2 j hj
theorem infoInt : (Try.prog.info? 3).map (fun i => (i.zero, i.size, i.bytes)) = some (some (.int .i64 0), 1, 8) := by kernel_rfl
theorem make_ints (n : Nat) (hn : n ≤ 100000) (W : World) : (Instr.makeSlice 66 (.int .i64 (n : Int)) (.int .i64 (n : Int))).run Try.prog W = .ok (.slice (some ⟨W.heap.size, 0, none⟩) n n) (W.alloc (.cells (madeCells #[.int .i64 0] n) 3)) := by
  have := run_make_row' (P := Try.prog) 66 3 (.int .i64 0) 8 Try.underlying66 infoInt rfl .i64 .i64 n (by omega) (by omega) W
  simpa using this
theorem rowI_new (w : World) (n : Nat) : RowI (w.alloc (.cells (madeCells #[.int .i64 0] n) 3)) w.heap.size n (fun _ => 0) :=
  ⟨_, bNew _ _, by rw [size_madeCells]; omega, fun i hi => by simp [madeCells, Nat.mod_one, hi]⟩
/-- What bounds the levels. -/
structure Bd (L : List Nd) (g : Nat → Nat) : Prop where
  le : ∀ i, g i ≤ 1000
  par : ∀ i (h : i < L.length), L[i].inn = true → ∀ p ∈ L[i].par, (∃ j : Nat, j < L.length ∧ findN L p = (j : Int)) ∧ g (idx L p) + 1 ≤ g i
theorem lvS_le {L : List Nd} {g f : Nat → Nat} {i : Nat} {p : Nm} (h : ∀ j, f j ≤ g j) (hp : g (idx L p) + 1 ≤ g i) : ∀ j, lvS L i f p j ≤ g j := by
  intro j
  unfold lvS upd
  split
  · rename_i e
    subst e
    have h1 := h j
    have h2 := h (idx L p)
    exact Nat.max_le.2 ⟨h1, by omega⟩
  · exact h j
theorem lvP_le {L : List Nd} {g : Nat → Nat} {i : Nat} (ps : List Nm) : ∀ f : Nat → Nat, (∀ j, f j ≤ g j) → (∀ p ∈ ps, g (idx L p) + 1 ≤ g i) → ∀ j, lvP L i f ps j ≤ g j := by
  induction ps with
  | nil => exact fun f h _ => h
  | cons p r ih => exact fun f h hp => ih _ (lvS_le h (hp p (List.mem_cons_self ..))) (fun q hq => hp q (List.mem_cons_of_mem _ hq))
theorem lvI_in {L : List Nd} {f : Nat → Nat} {i : Nat} (hi : i < L.length) (h : L[i].inn = true) : lvI L f (i + 1) = lvP L i (lvI L f i) L[i].par := by
  conv => lhs; unfold lvI
  rw [List.getElem?_eq_getElem hi]
  simp only [h, if_true]
theorem lvI_out {L : List Nd} {f : Nat → Nat} {i : Nat} (hi : i < L.length) (h : L[i].inn = false) : lvI L f (i + 1) = lvI L f i := by
  conv => lhs; unfold lvI
  rw [List.getElem?_eq_getElem hi]
  simp [h]
theorem lvI_off {L : List Nd} {f : Nat → Nat} {i : Nat} (hi : L.length ≤ i) : lvI L f (i + 1) = lvI L f i := by
  conv => lhs; unfold lvI
  rw [List.getElem?_eq_none hi]
theorem lvI_le {L : List Nd} {g : Nat → Nat} (hg : Bd L g) {f : Nat → Nat} (h : ∀ j, f j ≤ g j) : ∀ i j, lvI L f i j ≤ g j := by
  intro i
  induction i with
  | zero => exact h
  | succ i ih =>
    by_cases hi : i < L.length
    · cases hin : L[i].inn with
      | true =>
        rw [lvI_in hi hin]
        exact lvP_le _ _ ih (fun p hp => (hg.par i hi hin p hp).2)
      | false => rw [lvI_out hi hin]; exact ih
    · rw [lvI_off (by omega)]; exact ih
theorem lvT_le {L : List Nd} {g : Nat → Nat} (hg : Bd L g) : ∀ t j, lvT L t j ≤ g j := by
  intro t
  induction t with
  | zero => intro j; exact Nat.zero_le _
  | succ t ih => exact lvI_le hg ih _
theorem lvP_next (L : List Nd) (i : Nat) (f : Nat → Nat) (ps : List Nm) (k : Nat) (hk : k < ps.length) : lvP L i f (ps.take (k + 1)) = lvS L i (lvP L i f (ps.take k)) ps[k] := by
  unfold lvP
  rw [List.take_succ_eq_append_getElem hk, List.foldl_append]
  rfl
set_option maxRecDepth 100000 in
set_option maxHeartbeats 8000000 in
theorem levels_of (R : Nat) (L : List Nd) (g : Nat → Nat) (w : World) (h : RefV w R L) (hg : Bd L g) (hl : L.length ≤ 1000) (hl0 : 0 < L.length) :
    Calls Try.prog 46 #[rptr R] w fun e w' => ∃ G, e = .returned (.slice (some ⟨G, 0, none⟩) L.length L.length) ∧ RowI w' G L.length (lvT L L.length) ∧ Ch no w w' := by
  obtain ⟨A, c, hb, hr⟩ := h.ex
  have hlx := hr.len
  have hc0 := (bCell hb 0).trans rfl
  have hmk := make_ints L.length (by omega)
  have HV := Lib.hid h; have HB := Lib.hid hb; have HX := Lib.hid hr; have HG := Lib.hid hg
  have HR0 : Hid (RowI (w.alloc (.cells (madeCells #[.int .i64 0] L.length) 3)) w.heap.size L.length (lvT L 0)) := Lib.hid (rowI_new w L.length)
  obtain ⟨G, hG⟩ : ∃ G, w.heap.size = G := ⟨_, rfl⟩
  have HGL : Hid (w.heap.size ≤ G) := Lib.hid (by omega)
  have HCA : Hid (Ch no w (w.alloc (.cells (madeCells #[.int .i64 0] L.length) 3))) := Lib.hid ((Ch.refl no w).alloc _)
  clear hb hr h hg
  go_enter Try.func46, Try.ntmps46
  go_wp2_with fail
  rw [hG] at HR0
  clear hc0 hmk hG
  go_loopw [4] (fun i wr => ∃ t : Nat, t ≤ L.length ∧ i = .int .i64 t ∧ Hid (RowI wr G L.length (lvT L t)) ∧ Hid (Ch no w wr)) (fun i _ => L.length - (intOf i).toNat)
  case atStart => exact ⟨0, by omega, rfl, HR0, HCA⟩
  case round =>
    clear HR0 HCA
    obtain ⟨t, ht, rfl, HR, HC⟩ := hrel
    have hc0 := (bCell (HC.out.blk HB.out (no_not _)) 0).trans rfl
    by_cases hlt : t < L.length
    · have HN : Hid (lvT L (t + 1) = lvI L (lvT L t) L.length) := Lib.hid rfl
      have HFL : Hid (∀ j, lvT L t j ≤ g j) := Lib.hid (lvT_le HG.out t)
      obtain ⟨f0, hf0⟩ : ∃ f0, lvT L t = f0 := ⟨_, rfl⟩
      rw [hf0] at HR HN HFL
      clear hf0
      have HR0 : Hid (RowI wr G L.length (lvI L f0 0)) := Lib.hid HR.out
      clear HR
      go_wp2_with fail
      go_loopw [5] (fun i wr => ∃ q : Nat, q ≤ L.length ∧ i = .int .i64 q ∧ Hid (RowI wr G L.length (lvI L f0 q)) ∧ Hid (Ch no w wr)) (fun i _ => L.length - (intOf i).toNat)
      case atStart => exact ⟨0, by omega, rfl, HR0, HC⟩
      case round =>
        clear HR0 HC hc0
        obtain ⟨i, hi, rfl, HR, HC⟩ := hrel
        have hc0 := (bCell (HC.out.blk HB.out (no_not _)) 0).trans rfl
        by_cases hil : i < L.length
        · obtain ⟨ad, A3, c3, rfl, p0, p1, hr3⟩ := nd_at (HX.out.ch HC.out) i hil
          obtain ⟨ad', had, p2⟩ := nd_at3 (HX.out.ch HC.out) i hil
          cases had
          have hlq := hr3.len
          have HGI := Lib.hid (HG.out.par i hil)
          have HL1 := Lib.hid (lvI_in (f := f0) hil)
          have HL2 := Lib.hid (lvI_out (f := f0) hil)
          have HFI : Hid (∀ j, lvI L f0 i j ≤ g j) := Lib.hid (lvI_le HG.out HFL.out i)
          obtain ⟨nn, hnn⟩ : ∃ nn, L[i] = nn := ⟨_, rfl⟩
          rw [hnn] at p0 p1 p2 hr3 hlq HGI HL1 HL2
          obtain ⟨id3, ps, b3⟩ := nn
          have HR3 := Lib.hid (hr3.ch (Ch.refl no _))
          simp only at p0 p1 p2 hlq HR3 HGI HL1 HL2
          clear hr3
          obtain ⟨f1, hf1⟩ : ∃ f1, lvI L f0 i = f1 := ⟨_, rfl⟩
          rw [hf1] at HR HL1 HL2 HFI
          clear hf1
          cases b3 with
          | false =>
            have HLN : Hid (lvI L f0 (i + 1) = f1) := Lib.hid (HL2.out rfl)
            clear HL1 HL2 HGI
            obtain ⟨w1, hw1⟩ : ∃ w1, wr = w1 := ⟨_, rfl⟩
            subst hw1
            go_wp2_with fail
            go_loopw [6] (fun j wz => j = .int .i64 (0 : Nat) ∧ wr = wz) (fun _ _ => 0)
            case atStart => exact ⟨rfl, rfl⟩
            case round =>
              obtain ⟨rfl, rfl⟩ := hrel
              by_cases h0 : (0 : Int) < (ps.length : Int)
              · go_wp2_with fail
                go_roundw
                case rel => exact ⟨i + 1, by omega, by go_num, Lib.hid (by rw [HLN.out]; exact HR.out), HC⟩
                case measure => simp [intOf]; omega
              · go_wp2_with fail
                go_roundw
                case rel => exact ⟨i + 1, by omega, by go_num, Lib.hid (by rw [HLN.out]; exact HR.out), HC⟩
                case measure => simp [intOf]; omega
          | true =>
            have HLN : Hid (lvI L f0 (i + 1) = lvP L i f1 ps) := Lib.hid (HL1.out rfl)
            have HGP := Lib.hid (HGI.out rfl)
            have HR0 : Hid (RowI wr G L.length (lvP L i f1 (ps.take 0))) := Lib.hid (by simpa [lvP] using HR.out)
            clear HL1 HL2 HGI HR
            have HP0 : Hid (Ch no wr wr) := Lib.hid (Ch.refl no wr)
            go_wp2_with fail
            obtain ⟨w1, hw1⟩ : ∃ w1, wr = w1 := ⟨_, rfl⟩
            rw [hw1] at HR0 HC HR3 p0 p1 p2 hc0 HP0 ⊢
            clear hw1
            have HC1 := HC
            go_loopw [6] (fun j wz => ∃ k : Nat, k ≤ ps.length ∧ j = .int .i64 k ∧ Hid (RowI wz G L.length (lvP L i f1 (ps.take k))) ∧ Hid (Ch no w wz)) (fun j _ => ps.length - (intOf j).toNat)
            case atStart => exact ⟨0, by omega, rfl, HR0, HC⟩
            case round =>
              clear HR0 HC HP0 hc0 p0 p1 p2
              obtain ⟨k, hk, rfl, HR, HC⟩ := hrel
              have hc0 := (bCell (HC.out.blk HB.out (no_not _)) 0).trans rfl
              obtain ⟨ad'', A4, c4, had, p0, p1, hr4⟩ := nd_at (HX.out.ch HC.out) i hil
              cases had
              obtain ⟨ad'', had, p2⟩ := nd_at3 (HX.out.ch HC.out) i hil
              cases had
              rw [hnn] at p0 p1 p2 hr4
              simp only at p0 p1 p2 hr4
              have HR4 := Lib.hid hr4
              clear hr4
              by_cases hkl : k < ps.length
              · obtain ⟨ap, rfl, p3⟩ := HR4.out.flat_at k hkl
                have HLP := Lib.hid (lvP_next L i f1 ps k hkl)
                have HFP : Hid (∀ j, lvP L i f1 (ps.take k) j ≤ g j) := Lib.hid (lvP_le _ _ HFI.out (fun p hp => (HGP.out p (List.mem_of_mem_take hp)).2))
                obtain ⟨⟨j, hj, hfj⟩, _⟩ := HGP.out ps[k] (List.getElem_mem _)
                have HIX : Hid (idx L ps[k] = j) := Lib.hid (by unfold idx; rw [hfj]; rfl)
                have HFJ := Lib.hid hfj
                clear hfj
                obtain ⟨y, hy⟩ : ∃ y, ps[k] = y := ⟨_, rfl⟩
                replace p3 : wr.cell? (ap.add k) = some (.string y) := p3.trans (congrArg (fun z => some (Value.string z)) hy)
                rw [hy] at HLP HIX HFJ
                clear hy
                obtain ⟨f2, hf2⟩ : ∃ f2, lvP L i f1 (ps.take k) = f2 := ⟨_, rfl⟩
                rw [hf2] at HR HLP HFP
                clear hf2
                obtain ⟨ri, rf⟩ := HR.out.at_ i hil
                obtain ⟨rj, _⟩ := HR.out.at_ j hj
                have hbi : f2 i ≤ 1000 := Nat.le_trans (HFP.out i) (HG.out.le i)
                have hbj : f2 j ≤ 1000 := Nat.le_trans (HFP.out j) (HG.out.le j)
                have HSV : Hid (lvP L i f1 (ps.take (k + 1)) = upd f2 i (max (f2 i) (f2 j + 1))) := Lib.hid (by rw [HLP.out]; unfold lvS; rw [HIX.out])
                clear HLP HIX HFP
                obtain ⟨fi, hfi⟩ : ∃ fi, f2 i = fi := ⟨_, rfl⟩
                obtain ⟨fj, hfj⟩ : ∃ fj, f2 j = fj := ⟨_, rfl⟩
                rw [hfi] at ri hbi HSV
                rw [hfj] at rj hbj HSV
                clear hfi hfj
                obtain ⟨mv, hmv⟩ : ∃ mv, max fi (fj + 1) = mv := ⟨_, rfl⟩
                have HMX : Hid ((if (fi : Int) < (fj : Int) + 1 then (fj : Int) + 1 else (fi : Int)) = (mv : Int)) := Lib.hid (by subst hmv; split <;> omega)
                rw [hmv] at HSV
                clear hmv
                have hii : (i : Int) < (L.length : Int) := by omega
                have hjj : (j : Int) < (L.length : Int) := by omega
                go_upto_region 11 with (fail)
                obtain ⟨wd, hwd⟩ : ∃ wd, ({ wr with drawn := wr.drawn + 1 } : World) = wd := ⟨_, rfl⟩
                have HD : Hid (Ch no wr wd) := Lib.hid (by rw [← hwd]; exact (Ch.refl no wr).drew)
                have q0 := (bCell ((HC.out.then_ HD.out).blk HB.out (no_not _)) 0).trans rfl
                have q1 := cell_ch HD.out p1
                have q3 := cell_ch HD.out p3
                have r0 := cell_ch HD.out ri
                have r1 := cell_ch HD.out rj
                have HF := Lib.hid (find_of R L y wd (HV.out.ch (HC.out.then_ HD.out)))
                rw [HFJ.out] at HF
                clear hc0 p0 p1 p2 p3 ri rj rf
                refine wp_region_still_tail 25 (by kernel_rfl) (by kernel_rfl) ?_
                rw [hwd]
                simp only [List.take_succ_cons, List.take_zero, List.drop_succ_cons, List.drop_zero]
                repeat still_step
                still_call (HF.out.mono (fun e w' h => ⟨h.1, h.2.symm⟩))
                clear HF
                have hfz : wd.frozen? ⟨G, i, none⟩ = false := ((HR.out.ch HD.out (no_not _)).at_ i hil).2
                repeat still_step
                refine wpStill_nil ?_
                go_wp2_with fail
                go_roundw
                case rel => exact ⟨k + 1, by omega, by go_num, Lib.hid (by rw [HSV.out]; have hm := HMX.out; first | rw [hm]; exact (HR.out.ch HD.out (no_not _)).set i mv | fail "X"), Lib.hid ((HC.out.then_ HD.out).set (p := ⟨G, i, none⟩) (.inr HGL.out) _)⟩
                case measure => simp [intOf]; omega
              · have HT : Hid (ps.take k = ps) := Lib.hid (by rw [List.take_of_length_le (by omega)])
                have h1 := HR.out
                rw [HT.out, ← HLN.out] at h1
                have HR1 := Lib.hid h1
                clear h1 HR
                go_wp2_with fail
                go_roundw
                case rel => exact ⟨i + 1, by omega, by go_num, HR1, HC⟩
                case measure => simp [intOf]; omega
        · obtain rfl : i = L.length := by omega
          have h1 := HR.out
          rw [← HN.out] at h1
          have HR1 := Lib.hid h1
          clear h1 HR
          go_wp2_with fail
          go_roundw
          case rel => exact ⟨t + 1, by omega, by go_num, HR1, HC⟩
          case measure => simp [intOf]; omega
    · obtain rfl : t = L.length := by omega
      go_wp2_with fail
      go_ret
      exact ⟨G, rfl, HR.out, HC.out⟩
end Go.Proofs.Ytlmcbmgdhpoedaa.Fi
