/- A list of ids of the call's own, each once: slices.Compact. -/
import Derived.Test.YtlmcbmgdhpoedaaDg
namespace Go.Proofs.Ytlmcbmgdhpoedaa.Dh
open Go Go.RowKit Go.Sort Go.Shelf Go.Lib Go.Proofs.Ytlmcbmgdhpoedaa.Aa Go.Proofs.Ytlmcbmgdhpoedaa.Vw Go.Proofs.Ytlmcbmgdhpoedaa.Mp Go.Proofs.Ytlmcbmgdhpoedaa.Mj Go.Proofs.Ytlmcbmgdhpoedaa.Da Go.Proofs.Ytlmcbmgdhpoedaa.Db Go.Proofs.Ytlmcbmgdhpoedaa.Dc Go.Proofs.Ytlmcbmgdhpoedaa.De Go.Proofs.Ytlmcbmgdhpoedaa.Df Go.Proofs.Ytlmcbmgdhpoedaa.Dg
set_option linter.unusedVariables false
set_option linter.unusedSimpArgs false

theorem eqlStr (P : Program) (T : TypeId) : EqlAt P T Value.string (fun x y => decide (x = y)) :=
  ⟨fun x y w => by
    rw [(EqlAt.string P T).1 x y w]
    dsimp only
    by_cases h : x = y
    · rw [beq_yes h, decide_eq_true h]
    · rw [beq_no h, decide_eq_false h], .string P T⟩
theorem neqStr (P : Program) (T : TypeId) : NeqAt P T Value.string (fun x y => decide (x = y)) :=
  ⟨fun x y w => by
    have h0 : (binOp .neq T (.string x) (.string y)).run P w = .ok (.bool (!(x.toList == y.toList))) w := by simp [binOp, Op.stringOp]
    rw [h0]
    dsimp only
    by_cases h : x = y
    · rw [beq_yes h, decide_eq_true h]
    · rw [beq_no h, decide_eq_false h], .string P T⟩
theorem zeroStr (w : World) : (zeroValue 30).run Try.prog w = .ok (.string ByteArray.empty) w := by kernel_rfl
/-- What the library's function keeps is what 'uniq' keeps. -/
theorem compact_uniq (xs : List Nm) : ∀ m, m ≤ xs.length → compactUpTo xs.toArray m = uniq (xs.take m) := by
  intro m
  induction m with
  | zero => intro _; simp [compactUpTo, uniq, uniqP]
  | succ m ih =>
    intro hm
    rw [compactUpTo_succ, ih (by omega), List.take_succ_eq_append_getElem (show m < xs.length by omega)]
    unfold uniq
    rw [uniqP_snoc]
    congr 1
    have hgm : xs.toArray[m]! = xs[m] := by rw [getElem!_pos xs.toArray m (by simp; omega)]; simp
    cases m with
    | zero =>
      have : keeps xs.toArray 0 = true := by simp [keeps]
      rw [this]
      simp [hgm]
    | succ m =>
      have hgm2 : xs.toArray[m]! = xs[m] := by rw [getElem!_pos xs.toArray m (by simp; omega)]; simp
      have hlast : (xs.take (m + 1)).getLast? = some xs[m] := by
        rw [List.take_succ_eq_append_getElem (show m < xs.length by omega)]
        exact List.getLast?_concat
      rw [hlast]
      by_cases h : xs[m] = xs[m + 1]
      · have : keeps xs.toArray (m + 1) = false := keeps_neg (by omega) (by rw [Nat.add_sub_cancel, hgm, hgm2]; exact h.symm)
        rw [this]
        simp [h]
      · have : keeps xs.toArray (m + 1) = true := keeps_pos (by rw [Nat.add_sub_cancel, hgm, hgm2]; exact fun e => h e.symm)
        rw [this, hgm]
        simp [h]
theorem uniq_short (xs : List Nm) (h : xs.length < 2) : uniq xs = xs := by
  match xs, h with
  | [], _ => rfl
  | [x], _ => simp [uniq, uniqP]
theorem ch_putRow (w : World) (q g : Nat) (d : Array Nm) : Ch (Aa.one g) w (putRow Value.string (Sort.ahead w q) g 0 d) :=
  ⟨rfl, rfl, rfl, by simp, fun k hk hne => by
    have : g ≠ k := fun e => hne e.symm
    simp [putRow, mapBlock, Sort.ahead, Array.getElem?_modify, this]⟩
set_option maxHeartbeats 1000000 in
theorem compact_of (B : Nat) (v : Value) (xs : List Nm) (w : World) (h : OwnS w B v xs) (hl : xs.length ≤ 1000000) :
    Calls Try.prog 35 #[v] w fun e w' => ∃ v', e = .returned v' ∧ RowV w' v' (uniq xs) ∧ Ch (fun k => some k = v.ownBlock) w w' := by
  by_cases hs : xs.length < 2
  · obtain ⟨A, c, rfl, hr⟩ := El.Row.of_own h
    have hu := uniq_short xs hs
    have HX := Lib.hid hr; have HU := Lib.hid hu; clear hr h hu
    go_enter Try.func35, Try.ntmps35
    go_wp2_with fail
    go_ret
    exact ⟨.slice A xs.length c, rfl, ⟨A, c, by rw [HU.out], by rw [HU.out]; exact HX.out⟩, Ch.refl _ _⟩
  · rcases h.2 with ⟨rfl, hz⟩ | ⟨g, cap, cur, rfl, hbase, hg, r1, r2, r3, r4⟩
    · omega
    · have hH : Holds Value.string w g 0 xs.toArray := by
        intro j hj
        have hj' : j < xs.length := by simpa using hj
        refine ⟨?_, by simp [World.frozen?, hg]⟩
        rw [Nat.zero_add, bCell hg, ← Array.getElem?_toList]
        have h1 : (cur.toList.take (xs.length * 1))[j]? = (xs.map Value.string)[j]? := by rw [r4]
        rw [List.getElem?_take_of_lt (by omega)] at h1
        rw [h1, getElem!_pos xs.toArray j hj]
        simp [hj']
      have hc := AnyE.slices_Compact Try.compactI Value.string (fun _ => rfl) (eqlStr _ _) (neqStr _ _) ByteArray.empty zeroStr g 0 cap xs.toArray w hH (by simp; omega) (by simpa using r1)
      change Calls Try.prog 35 _ _ _ at hc
      rw [show xs.toArray.size = xs.length from by simp, compact_uniq xs xs.length (Nat.le_refl _), List.take_length] at hc
      refine hc.mono ?_
      rintro e w' ⟨rfl, q, rfl⟩
      have hul := uniq_length xs
      refine ⟨_, rfl, ⟨some ⟨g, 0, none⟩, cap, rfl, El.Row.flat_of (by omega) r2 (fun h => by cases h) (fun k x hk => ⟨_, rfl, ?_⟩)⟩, (ch_putRow w q g _).mono (fun k (hk : k = g) => by subst hk; rfl)⟩
      have hlt := (List.getElem?_eq_some_iff.1 hk).1
      have e2 : (Addr.add ⟨g, 0, none⟩ k) = ⟨g, 0 + k, none⟩ := by unfold Addr.add; split <;> simp_all
      have hsz : (uniq xs ++ List.replicate (xs.length - (uniq xs).length) ByteArray.empty).toArray.size = xs.toArray.size := by simp; omega
      rw [e2, cell?_putRow Value.string (Sort.ahead w q) g 0 xs.toArray _ (holds_ahead Value.string w q g 0 _ hH) hsz k (by simp; omega), getElem!_pos _ k (by simp; omega)]
      have := (List.getElem?_eq_some_iff.1 hk).2
      simp only [List.getElem_toArray]
      rw [List.getElem_append_left hlt, this]
end Go.Proofs.Ytlmcbmgdhpoedaa.Dh
