/- ref03.Split: walked. -/
import Derived.Test.YtekeiieefkgopaaXd
import Derived.Test.YtekeiieefkgopaaQi
import Derived.Test.YtekeiieefkgopaaNh
import Derived.Laws.Concat
namespace Go.Proofs.Ytekeiieefkgopaa.Qe
open Go Go.RowKit Go.Proofs.Ytekeiieefkgopaa.Aa Go.Proofs.Ytekeiieefkgopaa.Vw Go.Proofs.Ytekeiieefkgopaa.Ma Go.Proofs.Ytekeiieefkgopaa.Mb Go.Proofs.Ytekeiieefkgopaa.Na Go.Proofs.Ytekeiieefkgopaa.No Go.Proofs.Ytekeiieefkgopaa.Qc Go.Proofs.Ytekeiieefkgopaa.Qd Go.Proofs.Ytekeiieefkgopaa.Qi Go.Proofs.Ytekeiieefkgopaa.Nh
set_option linter.unusedVariables false
set_option linter.unusedSimpArgs false

theorem bne10 (b : UInt8) : ((b.toNat : Int) != 10) = decide (b ≠ 10) := by
  by_cases h : b = 10
  · subst h; rfl
  · rw [decide_eq_true h, bne_iff_ne]
    intro e
    exact h (UInt8.toNat_inj.1 (by have : (10 : UInt8).toNat = 10 := rfl; omega))
theorem ext_one (s : ByteArray) (k : Nat) (h : k < s.size) : s.extract k (k + 1) = ⟨#[s[k]]⟩ := by
  apply ByteArray.ext
  apply Array.ext
  · simp [ByteArray.size_extract]
    have : s.data.size = s.size := rfl
    omega
  · intro i h1 h2
    have : i = 0 := by simp at h2; exact h2
    subst this
    simp
    rfl
set_option maxRecDepth 100000 in
set_option maxHeartbeats 8000000 in
theorem refSplit_of (s : ByteArray) (w : World) (hs : s.size ≤ 1000000) :
    Calls Try.prog 31 #[.string s] w fun e w' => ∃ v, e = .returned v ∧ OwnS w' w.heap.size v (splitS s) ∧ Ch no w w' := by
  obtain ⟨i0, hi, hz0, hz1, hz2⟩ := info_parts infoStr
  rw [split_lines]
  obtain ⟨l, hl⟩ : ∃ l, s.data.toList = l := ⟨_, rfl⟩
  have HL := Lib.hid hl
  rw [hl]
  clear hl
  go_enter Try.func31, Try.ntmps31
  go_wp2_with fail
  go_loopw [3, 4, 5] (fun v o i wr => ∃ k : Nat, k ≤ s.size ∧ i = .int .i64 k ∧ o = .bool (openB (l.take k)) ∧ Hid (OwnS wr w.heap.size v (linesB (l.take k))) ∧ Hid (Ch no w wr)) (fun v o i _ => s.size - (intOf i).toNat)
  case atStart => exact ⟨0, by omega, rfl, rfl, Lib.hid ⟨rfl, .inl ⟨rfl, rfl⟩⟩, Lib.hid (Ch.refl no w)⟩
  case round =>
    obtain ⟨k, hk, rfl, rfl, HO, HC⟩ := hrel
    by_cases hlt : k < s.size
    · cases ho : openB (l.take k) with
      | true =>
        have hne : linesB (l.take k) ≠ [] := by
          intro e
          unfold linesB at e
          have e2 : spl (l.take k) = [] := by simpa using e
          by_cases h : l.take k = []
          · rw [h] at ho; cases ho
          · exact spl_cons_ne _ h e2
        obtain ⟨p, hp⟩ : ∃ p, (linesB (l.take k)).length = p + 1 := ⟨(linesB (l.take k)).length - 1, by have := List.length_pos_iff.2 hne; omega⟩
        have hlk : k < l.length := by rw [← HL.out, Array.length_toList]; exact hlt
        have HNX := Lib.hid (linesB_ext (l.take k) l[k] p ho hp)
        have HTK : Hid (l.take (k + 1) = l.take k ++ [l[k]]) := List.take_succ_eq_append_getElem hlk
        obtain ⟨X, hX⟩ : ∃ X, linesB (l.take k) = X := ⟨_, rfl⟩
        rw [hX] at HO hne
        have HNX2 : Hid (linesB (l.take (k + 1)) = X.set p (X[p]'(by rw [← hX]; omega) ++ ⟨#[l[k]]⟩)) := by
          show linesB (l.take (k + 1)) = _
          rw [HTK.out, HNX.out]; subst hX; rfl
        have hXl : X.length = p + 1 := by rw [← hX]; exact hp
        have hps := (spl_len (l.take k)).1
        have hpl : p ≤ 1000000 := by
          have : (linesB (l.take k)).length = (spl (l.take k)).length := by unfold linesB; simp
          have h2 : l.length = s.size := by rw [← HL.out, Array.length_toList]; rfl
          rw [List.length_take] at hps; omega
        have hxs : (X[p]'(by omega)).size ≤ 1000000 := by
          have h2 : l.length = s.size := by rw [← HL.out, Array.length_toList]; rfl
          have hm : X[p]'(by omega) ∈ linesB (l.take k) := by rw [hX]; exact List.getElem_mem _
          unfold linesB at hm
          obtain ⟨z, hz, e⟩ := List.mem_map.1 hm
          have := (spl_len (l.take k)).2 z hz
          rw [List.length_take] at this
          rw [← e]
          show z.toArray.size ≤ _
          simp; omega
        obtain ⟨g, cap, rfl, hge, hbuf⟩ := own_buf HO.out hne
        have HOP : Hid (openB (l.take (k + 1)) = decide (l[k] ≠ 10)) := by
          show openB _ = _
          rw [HTK.out]; exact open_snoc _ _
        have HSK : Hid (s[k]'hlt = l[k]) := by
          show s[k]'hlt = l[k]
          have := HL.out
          subst this
          rfl
        obtain ⟨bt, hbt⟩ : ∃ bt, l[k] = bt := ⟨_, rfl⟩
        rw [hbt] at HSK HOP HNX2
        have HEX : Hid (s.extract k (k + 1) = ⟨#[bt]⟩) := by
          show s.extract k (k + 1) = _
          rw [← HSK.out]
          exact ext_one s k hlt
        obtain ⟨q, hq⟩ : ∃ q, X[p]'(by omega) = q := ⟨_, rfl⟩
        rw [hq] at hxs HNX2
        have q1 : wr.cell? ⟨g, p, none⟩ = some (.string q) := by have := hbuf.cell p (by omega); rwa [hq] at this
        have f1 := hbuf.free p
        have HBf := Lib.hid hbuf
        have hadd := fun W : World => run_string_add (P := Try.prog) W q ⟨#[bt]⟩ (by omega) (by show ((1 : Nat) : Int) ≤ _; omega)
        have hpi : IntKind.i64.wrap (p : Int) = (p : Int) := IntWalk.i64_in _ (by omega)
        have hpl2 : (p : Int) < (p : Int) + 1 := by omega
        rw [hXl]
        clear hX hq hbuf hps hne hbt HO HNX HTK hp ho
        go_upto_region 8 with (fail)
        have hsl : ∀ W : World, (Instr.slice 9 (.string s) (some (.int .i64 (k : Int))) (some (.int .i64 ((k : Int) + 1))) none).run Try.prog W = .ok (.string ⟨#[bt]⟩) W := fun W => by
          have h := run_slice_string (P := Try.prog) W 9 s .i64 .i64 (k : Int) ((k : Int) + 1) (by kernel_rfl) (by omega) (by omega) (by omega)
          rw [show ((k : Int) + 1).toNat = k + 1 by omega, show ((k : Int)).toNat = k by omega, HEX.out] at h
          exact h
        have hex := HEX.out
        have hsk := HSK.out
        have hwk : IntKind.i64.wrap ((k : Int) + 1) = (k : Int) + 1 := IntWalk.i64_in _ (by omega)
        have htn : ((k : Int) + 1).toNat = k + 1 := by omega
        have hk0 : (0 : Int) ≤ (k : Int) + 1 := by omega
        have hk1 : (k : Int) < (s.size : Int) := by omega
        have hk2 : (k : Int) + 1 ≤ (s.size : Int) := by omega
        go_still_tail 17, (by kernel_rfl)
        show wpList _ _ _ _ _ wr.drew
        go_wp2_with fail
        go_roundw
        case rel =>
          refine ⟨k + 1, by omega, by go_num, ?_, ?_, ?_⟩
          · rw [HOP.out]; congr 1; exact bne10 bt
          · have h := buf_own ((HBf.out.set p (by omega) (q ++ ⟨#[bt]⟩)).ch (Ch.refl no _).drew (no_not _)) hge
            rw [List.length_set, hXl] at h
            rw [HNX2.out]
            exact h
          · exact (HC.out.set (p := ⟨g, p, none⟩) (.inr hge) _).drew
        case measure => simp [intOf] <;> omega
      | false =>
        have hlk : k < l.length := by rw [← HL.out, Array.length_toList]; exact hlt
        obtain ⟨bt, hbt⟩ : ∃ bt, l[k] = bt := ⟨_, rfl⟩
        have HTK : Hid (l.take (k + 1) = l.take k ++ [bt]) := by
          show l.take (k + 1) = _
          rw [← hbt]; exact List.take_succ_eq_append_getElem hlk
        have HOP : Hid (openB (l.take (k + 1)) = decide (bt ≠ 10)) := by
          show openB _ = _
          rw [HTK.out]; exact open_snoc _ _
        have HNX2 : Hid (linesB (l.take (k + 1)) = linesB (l.take k) ++ [⟨#[bt]⟩]) := by
          show linesB (l.take (k + 1)) = _
          rw [HTK.out]; exact linesB_new _ _ ho
        have HSK : Hid (s[k]'hlt = bt) := by
          show s[k]'hlt = bt
          rw [← hbt]
          have := HL.out
          subst this
          rfl
        have HEX : Hid (s.extract k (k + 1) = ⟨#[bt]⟩) := by
          show s.extract k (k + 1) = _
          rw [← HSK.out]
          exact ext_one s k hlt
        have hpl : (linesB (l.take k)).length ≤ 1000000 := by
          have h1 : (linesB (l.take k)).length = (spl (l.take k)).length := by unfold linesB; simp
          have h2 : l.length = s.size := by rw [← HL.out, Array.length_toList]; rfl
          have hps := (spl_len (l.take k)).1
          rw [List.length_take] at hps; omega
        obtain ⟨X, hX⟩ : ∃ X, linesB (l.take k) = X := ⟨_, rfl⟩
        rw [hX] at HO HNX2 hpl
        clear hX hbt HTK ho
        go_wp2_with (at_builtin; refine app_row (enc := Value.string) (fun _ => rfl) rfl _ _ 25 rfl w.heap.size 9 i0 _ 16 Try.underlying25 hi hz0 hz1 hz2 rfl _ X.length _ rfl (own_ch HO.out ((Ch.refl no _).alloc _) (fun _ _ => no_not _)) (some ⟨wr.heap.size, 0, none⟩) 1 [(⟨#[]⟩ : ByteArray)] rfl (one_row wr (⟨#[]⟩ : ByteArray) 9) (by unfold maxLen; simp; omega) (by simp; omega) (by have := HC.out.size; simp; omega) ?_; intro v' w2 hown hgrow _; have HC2 := Lib.hid (Vw.Ch.grown_new (HC.out.alloc _) hgrow (fun k hk => own_ge HO.out k hk)); obtain ⟨g, cap, rfl, hge, hbuf⟩ := own_buf (own_app hown) (by simp); have HBf := Lib.hid hbuf; rw [show (X ++ [(⟨#[]⟩ : ByteArray)]).length = X.length + 1 by simp]; clear hown hgrow hbuf)
        obtain ⟨p, hp⟩ : ∃ p, X.length = p := ⟨_, rfl⟩
        have hXl : (X ++ [(⟨#[]⟩ : ByteArray)]).length = p + 1 := by simp [hp]
        rw [hp] at hpl ⊢
        have hgp : (X ++ [(⟨#[]⟩ : ByteArray)])[p]? = some ⟨#[]⟩ := by rw [List.getElem?_append_right (by omega), hp]; simp
        have hgp2 : (X ++ [(⟨#[]⟩ : ByteArray)])[p]'(by omega) = ⟨#[]⟩ := (List.getElem?_eq_some_iff.1 hgp).2
        have q1 : w2.cell? ⟨g, p, none⟩ = some (.string ⟨#[]⟩) := by have := HBf.out.cell p (by omega); rwa [hgp2] at this
        have f1 := HBf.out.free p
        have hadd := fun W : World => run_string_add (P := Try.prog) W ⟨#[]⟩ ⟨#[bt]⟩ (by show ((0 : Nat) : Int) ≤ _; omega) (by show ((1 : Nat) : Int) ≤ _; omega)
        have HSET : Hid ((X ++ [(⟨#[]⟩ : ByteArray)]).set p (⟨#[]⟩ ++ ⟨#[bt]⟩) = linesB (l.take (k + 1))) := by
          show _ = _
          rw [HNX2.out, List.set_append_right _ _ (by omega), hp]
          simp
          rfl
        have hpi : IntKind.i64.wrap (p : Int) = (p : Int) := IntWalk.i64_in _ (by omega)
        have hpl2 : (p : Int) < (p : Int) + 1 := by omega
        have hsl : ∀ W : World, (Instr.slice 9 (.string s) (some (.int .i64 (k : Int))) (some (.int .i64 ((k : Int) + 1))) none).run Try.prog W = .ok (.string ⟨#[bt]⟩) W := fun W => by
          have h := run_slice_string (P := Try.prog) W 9 s .i64 .i64 (k : Int) ((k : Int) + 1) (by kernel_rfl) (by omega) (by omega) (by omega)
          rw [show ((k : Int) + 1).toNat = k + 1 by omega, show ((k : Int)).toNat = k by omega, HEX.out] at h
          exact h
        have hsk := HSK.out
        have hwk : IntKind.i64.wrap ((k : Int) + 1) = (k : Int) + 1 := IntWalk.i64_in _ (by omega)
        have hk1 : (k : Int) < (s.size : Int) := by omega
        clear hgp hgp2 hp
        go_upto_region 8 with (fail)
        go_still_tail 17, (by kernel_rfl)
        show wpList _ _ _ _ _ w2.drew
        go_wp2_with fail
        go_roundw
        case rel =>
          refine ⟨k + 1, by omega, by go_num, ?_, ?_, ?_⟩
          · rw [HOP.out]; congr 1; exact bne10 bt
          · have h := buf_own ((HBf.out.set p (by omega) (⟨#[]⟩ ++ ⟨#[bt]⟩)).ch (Ch.refl no _).drew (no_not _)) hge
            rw [List.length_set, hXl] at h
            rw [← HSET.out]
            exact h
          · exact (HC2.out.set (p := ⟨g, p, none⟩) (.inr hge) _).drew
        case measure => simp [intOf] <;> omega
    · have HF : Hid (l.take k = l) := Lib.hid (List.take_of_length_le (by rw [← HL.out, Array.length_toList]; show s.size ≤ k; omega))
      go_wp2_with fail
      go_ret
      exact ⟨_, rfl, by have := HO.out; rwa [HF.out] at this, HC.out⟩
end Go.Proofs.Ytekeiieefkgopaa.Qe
