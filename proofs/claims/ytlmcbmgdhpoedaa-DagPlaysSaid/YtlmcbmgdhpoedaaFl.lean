/- The document's graph: an id is added: walked. -/
import Derived.Test.YtlmcbmgdhpoedaaFk
namespace Go.Proofs.Ytlmcbmgdhpoedaa.Fl
open Go Go.RowKit Go.Proofs.Ytlmcbmgdhpoedaa.Aa Go.Proofs.Ytlmcbmgdhpoedaa.Vw Go.Proofs.Ytlmcbmgdhpoedaa.Da Go.Proofs.Ytlmcbmgdhpoedaa.Db Go.Proofs.Ytlmcbmgdhpoedaa.De Go.Proofs.Ytlmcbmgdhpoedaa.Di Go.Proofs.Ytlmcbmgdhpoedaa.Ds Go.Proofs.Ytlmcbmgdhpoedaa.Du Go.Proofs.Ytlmcbmgdhpoedaa.Fa Go.Proofs.Ytlmcbmgdhpoedaa.Fb Go.Proofs.Ytlmcbmgdhpoedaa.Fc Go.Proofs.Ytlmcbmgdhpoedaa.Fd Go.Proofs.Ytlmcbmgdhpoedaa.Fe Go.Proofs.Ytlmcbmgdhpoedaa.Fk
set_option linter.unusedVariables false
set_option linter.unusedSimpArgs false

/-- One node more, in its place. -/
def insN (x : Nd) : List Nd → List Nd
  | [] => [x]
  | n :: r => if less x.id n.id then x :: n :: r else n :: insN x r
/-- What is to come. -/
def Fin (x : Nd) (L : List Nd) (k : Nat) (b : Bool) (M : List Nd) : Prop := insN x L = M ++ (if b then L.drop k else insN x (L.drop k)) ∧ M.length = k + (if b then 1 else 0)
theorem Fin.zero (x : Nd) (L : List Nd) : Fin x L 0 false [] := ⟨by simp, rfl⟩
theorem Fin.yes {x : Nd} {L M : List Nd} {k : Nat} (h : Fin x L k true M) (hk : k < L.length) : Fin x L (k + 1) true (M ++ [L[k]]) := by
  obtain ⟨h1, h2⟩ := h
  refine ⟨?_, by simp [h2]⟩
  rw [h1, List.drop_eq_getElem_cons hk]
  simp
theorem Fin.put {x : Nd} {L M : List Nd} {k : Nat} (h : Fin x L k false M) (hk : k < L.length) (hl : less x.id L[k].id = true) : Fin x L (k + 1) true (M ++ [x] ++ [L[k]]) := by
  obtain ⟨h1, h2⟩ := h
  refine ⟨?_, by simp [h2]⟩
  rw [h1, List.drop_eq_getElem_cons hk]
  simp [insN, hl]
theorem Fin.skip {x : Nd} {L M : List Nd} {k : Nat} (h : Fin x L k false M) (hk : k < L.length) (hl : less x.id L[k].id = false) : Fin x L (k + 1) false (M ++ [L[k]]) := by
  obtain ⟨h1, h2⟩ := h
  refine ⟨?_, by simp [h2]⟩
  rw [h1, List.drop_eq_getElem_cons hk]
  simp [insN, hl]
theorem Fin.done {x : Nd} {L M : List Nd} (h : Fin x L L.length true M) : insN x L = M := by
  have := h.1; simpa using this
theorem Fin.last {x : Nd} {L M : List Nd} (h : Fin x L L.length false M) : insN x L = M ++ [x] := by
  have := h.1; simpa [insN] using this
/-- The first that comes in now. -/
def rfirst (L : List Nd) : Option Nat := L.findIdx? (fun n => !n.inn && rready L n.par)
def rsettle : Nat → List Nd → List Nm → List Nd × List Nm
  | 0, L, out => (L, out)
  | m + 1, L, out => match rfirst L with
    | none => (L, out)
    | some k => match L[k]? with
      | some n => rsettle m (L.set k ⟨n.id, n.par, true⟩) (out ++ [n.id])
      | none => (L, out)
def cnt (L : List Nd) : Nat := (L.filter (fun n => !n.inn)).length
def radd (L : List Nd) (x : Nm) (ps : List Nm) : List Nd × List Nm :=
  if (at? L x).isSome then (L, []) else
  if rready L (putAll [] ps) then rsettle (cnt (insN ⟨x, putAll [] ps, true⟩ L)) (insN ⟨x, putAll [] ps, true⟩ L) [x] else (insN ⟨x, putAll [] ps, false⟩ L, [])
theorem cnt_set {L : List Nd} : ∀ {k : Nat} {n : Nd}, L[k]? = some n → n.inn = false → cnt (L.set k ⟨n.id, n.par, true⟩) + 1 = cnt L := by
  unfold cnt
  induction L with
  | nil => intro k n h; simp at h
  | cons y r ih =>
    intro k n h hn
    cases k with
    | zero =>
      have e : y = n := by simpa using h
      subst e
      simp [hn]
    | succ k =>
      have h2 := ih (k := k) (n := n) (by simpa using h) hn
      rw [List.set_cons_succ, List.filter_cons, List.filter_cons]
      split
      · simp only [List.length_cons]; omega
      · exact h2
/-- What is to come in. -/
def Set (L0 : List Nd × List Nm) (n0 : Nat) (L : List Nd) (out : List Nm) (i : Nat) : Prop :=
  (∃ m, cnt L ≤ m ∧ rsettle m L out = L0) ∧ out.length + cnt L = n0 ∧ ∀ j (hj : j < L.length), j < i → (!L[j].inn && rready L L[j].par) = false
theorem Set.next {L0 : List Nd × List Nm} {n0 : Nat} {L : List Nd} {out : List Nm} {i : Nat} (h : Set L0 n0 L out i) (hi : i < L.length) (hn : (!L[i].inn && rready L L[i].par) = false) : Set L0 n0 L out (i + 1) := by
  refine ⟨h.1, h.2.1, fun j hj hji => ?_⟩
  by_cases e : j = i
  · subst e; exact hn
  · exact h.2.2 j hj (by omega)
theorem Set.enter {L0 : List Nd × List Nm} {n0 : Nat} {L : List Nd} {out : List Nm} {i : Nat} (h : Set L0 n0 L out i) (hi : i < L.length) (hn : L[i].inn = false) (hr : rready L L[i].par = true) : Set L0 n0 (L.set i ⟨L[i].id, L[i].par, true⟩) (out ++ [L[i].id]) 0 := by
  have hf : rfirst L = some i := by
    unfold rfirst
    rw [List.findIdx?_eq_some_iff_getElem]
    exact ⟨hi, by simp [hn, hr], fun j hj => by have := h.2.2 j (by omega) hj; simpa using this⟩
  have hg := List.getElem?_eq_getElem hi
  have hc := cnt_set hg hn
  obtain ⟨⟨m, hm, he⟩, h2, _⟩ := h
  refine ⟨?_, by simp only [List.length_append, List.length_singleton]; omega, fun j _ hj => by omega⟩
  cases m with
  | zero => omega
  | succ m =>
    refine ⟨m, by omega, ?_⟩
    rw [← he]
    conv => rhs; unfold rsettle
    simp only [hf, hg]
theorem Set.done {L0 : List Nd × List Nm} {n0 : Nat} {L : List Nd} {out : List Nm} (h : Set L0 n0 L out L.length) : (L, out) = L0 := by
  have hf : rfirst L = none := by
    unfold rfirst
    rw [List.findIdx?_eq_none_iff]
    intro n hn
    obtain ⟨j, hj, rfl⟩ := List.mem_iff_getElem.1 hn
    simpa using h.2.2 j hj hj
  obtain ⟨⟨m, _, he⟩, _⟩ := h
  rw [← he]
  cases m with
  | zero => rfl
  | succ m => unfold rsettle; simp only [hf]
def lenOf : Value → Nat
  | .slice _ n _ => n
  | _ => 0
theorem add_block (a : Addr) (m : Nat) : (a.add m).block = a.block := by unfold Addr.add; split <;> rfl
theorem own_some {w : World} {B n c : Nat} {e : TypeId} {A : Option Addr} {cs : List Value} (h : w.ownsRow B e 3 (.slice A n c) n cs) (hn : 0 < n) : ∃ ad, A = some ad ∧ B ≤ ad.block ∧ ad.block < w.heap.size := by
  obtain ⟨_, ⟨h1, h2⟩ | ⟨g, cap, cur, h1, h2, hg, _⟩⟩ := h
  · omega
  · cases h1
    exact ⟨_, rfl, h2, blk_lt' hg⟩
theorem refG_store {W r : World} {R : Nat} {ad : Addr} {c : Nat} {N : List Nd} {o : Value} (h : OwnN W r (.slice (some ad) N.length c) N) (hc : Ch no r W) (hR : r.heap[R]? = some (.cells #[o] 40 (0, 0))) (ho : ∀ s, o ≠ .string s) (hg : r.heap.size ≤ ad.block) :
    RefG (W.setCell ⟨R, 0, none⟩ (.slice (some ad) N.length c)) r R ad c N := by
  obtain ⟨cs, h1, h2⟩ := h
  have hb := hc.blk hR (no_not _)
  have hlt := blk_lt' hR
  refine ⟨bSet hb 0 _, ⟨cs, own_less (own_ch h1 (Ch.set1 W R 0 _) (fun k hk => ?_)) (Nat.zero_le _), h2⟩, (Str.of_ch hc).trans (Str.set _ ((bCell hb 0).trans rfl) ho)⟩
  cases hk
  intro e
  have e' : ad.block = R := e
  omega
theorem insN_len (x : Nd) (L : List Nd) : (insN x L).length = L.length + 1 := by
  induction L with
  | nil => rfl
  | cons y r ih =>
    unfold insN
    split
    · rfl
    · simp only [List.length_cons, ih]
theorem cnt_le (L : List Nd) : cnt L ≤ L.length := List.length_filter_le _ _
theorem Set.first (L : List Nd) (x : Nm) : Set (rsettle (cnt L) L [x]) (1 + cnt L) L [x] 0 := ⟨⟨_, Nat.le_refl _, rfl⟩, rfl, fun j hj h => by omega⟩
theorem meas {n0 o n k : Nat} (h : o + 1 ≤ n0) (hk : k < n) : (n0 - (o + 1)) * (n + 1) + (n - 0) < (n0 - o) * (n + 1) + (n - k) := by
  rw [show n0 - o = (n0 - (o + 1)) + 1 by omega, Nat.add_mul]
  omega
theorem refG_free {w r : World} {R : Nat} {ad : Addr} {c : Nat} {L : List Nd} (h : RefG w r R ad c L) (hn : 0 < L.length) (i : Nat) (m : Nat) : w.frozen? ⟨(ad.add m).block, i, none⟩ = false := by
  obtain ⟨_, ⟨cs, ho, _⟩, _⟩ := h
  obtain ⟨_, ⟨h1, _⟩ | ⟨g, cap, cur, h1, h2, hg, _⟩⟩ := ho
  · cases h1
  · cases h1
    rw [add_block]
    exact bFree hg _
set_option maxRecDepth 100000 in
set_option maxHeartbeats 16000000 in
theorem radd_of (R : Nat) (L : List Nd) (x : Nm) (v : Value) (ps : List Nm) (w : World) (h : RefV w R L) (hv : RowV w v ps) (hl : L.length ≤ 1000) (hz : ∀ n ∈ L, n.id.size ≤ 1000) (hx : x.size ≤ 1000) (hpl : ps.length ≤ 1000) (hpz : ∀ p ∈ ps, p.size ≤ 1000) :
    Calls Try.prog 21 #[rptr R, .string x, v] w fun e w' => ∃ v', e = .returned v' ∧ OwnS w' w.heap.size v' (radd L x ps).2 ∧ RefV w' R (radd L x ps).1 ∧ Ch (Aa.one R) w w' := by
  obtain ⟨A, c, rfl, hrow⟩ := hv
  have HV := Lib.hid h; have HZ := Lib.hid hz; have HPR := Lib.hid hrow; have HPZ := Lib.hid hpz
  have hf := find_of R L x w h
  clear h hz hrow hpz
  rcases findN_cases L x with ⟨h1, h2⟩ | ⟨k, hk, h1, h2, h3⟩
  · have HA : Hid ((at? L x).isSome = false) := Lib.hid (by rw [h2]; rfl)
    rw [h1] at hf
    clear h1 h2
    go_enter Try.func21, Try.ntmps21
    go_wp2_with fail
    refine hf.mono ?_
    rintro e w' ⟨rfl, hw⟩
    subst hw
    clear hf
    go_wp2_with fail
    refine (rsorted_of A c ps w HPR.out hpl HPZ.out).mono ?_
    rintro e w1 ⟨v1, rfl, ho1, hc1⟩
    have HR1 : Hid (RowV w1 v1 (putAll [] ps)) := Lib.hid (RowV.of_own ho1)
    have HC1 := Lib.hid hc1
    obtain ⟨qs, hqs⟩ : ∃ qs, putAll [] ps = qs := ⟨_, rfl⟩
    have HRA : Hid (radd L x ps = if rready L qs then rsettle (cnt (insN ⟨x, qs, true⟩ L)) (insN ⟨x, qs, true⟩ L) [x] else (insN ⟨x, qs, false⟩ L, [])) := Lib.hid (by unfold radd; rw [HA.out, hqs]; rfl)
    rw [hqs] at HR1
    clear hqs ho1 hc1 HA
    obtain ⟨A1, c1, rfl, hr1⟩ := HR1.out
    have HR1' := Lib.hid hr1
    clear hr1 HR1
    go_wp2_with fail
    refine (rready_of R L A1 c1 qs _ ((HV.out.ch HC1.out).ch ((Ch.refl no _).alloc _)) (HR1'.out.ch ((Ch.refl no _).alloc _))).mono ?_
    rintro e w' ⟨rfl, hw⟩
    subst hw
    obtain ⟨b, hb⟩ : ∃ b, rready L qs = b := ⟨_, rfl⟩
    rw [hb] at HRA ⊢
    clear hb
    go_wp2_with fail
    generalize hr : w1.alloc (.cells #[.string x, .slice A1 qs.length c1, .bool b] 42) = r
    have HXB : Hid (r.heap[w1.heap.size]? = some (.cells #[.string x, .slice A1 qs.length c1, .bool b] 42 (0, 0))) := Lib.hid (by rw [← hr]; exact bNew _ _)
    have HCR : Hid (Ch no w r) := Lib.hid (by rw [← hr]; exact HC1.out.alloc _)
    have HRX : Hid (RowV r (.slice A1 qs.length c1) qs) := Lib.hid ⟨A1, c1, rfl, by rw [← hr]; exact HR1'.out.ch ((Ch.refl no _).alloc _)⟩
    obtain ⟨A0, c0, hb0, hr0⟩ := (HV.out.ch HCR.out).ex
    have HB0 := Lib.hid hb0; have HX0 := Lib.hid hr0
    have HXR : Hid (R < w1.heap.size) := Lib.hid (by obtain ⟨_, _, hb, _⟩ := (HV.out.ch HC1.out).ex; exact blk_lt' hb)
    obtain ⟨X, hX⟩ : ∃ X, w1.heap.size = X := ⟨_, rfl⟩
    rw [hX] at HXB HXR ⊢
    clear hr hb0 hr0 HC1 HR1' hX
    have hlx := HX0.out.len
    have HO0 : Hid (OwnN r r (.slice none 0 0) []) := Lib.hid ⟨[], ⟨rfl, .inl ⟨rfl, rfl⟩⟩, .nil⟩
    have HONX : Hid (∀ u ∈ [Value.string x, .slice A1 qs.length c1, .bool b], u.oneCell' = true) := Lib.hid (by simp [Value.oneCell'])
    obtain ⟨i0, hi, hz0, hz1, hz2⟩ := info_parts infoStr
    obtain ⟨j0, ji, jz0, jz1, jz2⟩ := info_parts infoNode
    go_loopw [8, 9, 10] (fun o dn i wr => ∃ (k : Nat) (q : Bool) (M : List Nd), k ≤ L.length ∧ i = .int .i64 k ∧ dn = .bool q ∧ Hid (Fin ⟨x, qs, b⟩ L k q M) ∧ Hid (OwnN wr r o M) ∧ Hid (Ch no r wr)) (fun _ _ i _ => L.length - (intOf i).toNat)
    case atStart => exact ⟨0, false, [], by omega, rfl, rfl, Lib.hid (Fin.zero _ _), HO0, Lib.hid (Ch.refl _ _)⟩
    case round =>
      clear HO0
      obtain ⟨k, q, M, hk, rfl, rfl, HF, HO, HCwr⟩ := hrel
      have hML : M.length ≤ L.length + 1 := by have h := HF.out.2; rw [h]; split <;> omega
      have hwz := HCwr.out.size
      obtain ⟨cs, ho, hn⟩ := HO.out
      have HOW := Lib.hid ho; have HN := Lib.hid hn
      clear ho hn HO
      obtain ⟨Am, cm, ho0⟩ := own_shape HOW.out
      subst ho0
      have hc0 := (bCell (HCwr.out.blk HB0.out (no_not _)) 0).trans rfl
      have hx0 := (bCell (HCwr.out.blk HXB.out (no_not _)) 0).trans rfl
      have hx1 := (bCell (HCwr.out.blk HXB.out (no_not _)) 1).trans rfl
      have hx2 := (bCell (HCwr.out.blk HXB.out (no_not _)) 2).trans rfl
      by_cases hlt : k < L.length
      · obtain ⟨ad, A2, c2, rfl, p0, p1, hr2⟩ := nd_at HX0.out k hlt
        obtain ⟨ad', had, p2⟩ := nd_at3 HX0.out k hlt
        cases had
        have HYV : Hid (RowV r (.slice A2 L[k].par.length c2) L[k].par) := Lib.hid ⟨_, _, rfl, hr2⟩
        have HYZ : Hid (L[k].id.size ≤ 1000) := Lib.hid (HZ.out _ (List.getElem_mem _))
        have HYX := fun (h : q = true) => (show Fin ⟨x, qs, b⟩ L (k + 1) true (M ++ [L[k]]) from Fin.yes (by have := HF.out; rw [h] at this; exact this) hlt)
        have HPX := fun (h : q = false) (h2 : less x L[k].id = true) => (show Fin ⟨x, qs, b⟩ L (k + 1) true (M ++ [⟨x, qs, b⟩] ++ [L[k]]) from Fin.put (by have := HF.out; rw [h] at this; exact this) hlt h2)
        have HSX := fun (h : q = false) (h2 : less x L[k].id = false) => (show Fin ⟨x, qs, b⟩ L (k + 1) false (M ++ [L[k]]) from Fin.skip (by have := HF.out; rw [h] at this; exact this) hlt h2)
        have HYY := Lib.hid HYX; have HPP := Lib.hid HPX; have HSS := Lib.hid HSX
        clear HYX HPX HSX hr2
        obtain ⟨y, hy⟩ : ∃ y, L[k] = y := ⟨_, rfl⟩
        rw [hy] at p0 p1 p2 HYV HYZ HYY HPP HSS
        clear hy
        obtain ⟨yi, yp, yn⟩ := y
        simp only at p0 p1 p2 HYV HYZ HYY HPP HSS
        have P0 := Lib.hid p0; have P1 := Lib.hid p1; have P2 := Lib.hid p2
        replace p0 := cell_ch HCwr.out p0
        replace p1 := cell_ch HCwr.out p1
        replace p2 := cell_ch HCwr.out p2
        have HONY : Hid (∀ u ∈ [Value.string yi, .slice A2 yp.length c2, .bool yn], u.oneCell' = true) := Lib.hid (by simp [Value.oneCell'])
        cases q with
        | true =>
          go_upto_region 13 with (fail)
          go_wp2_with (at_builtin; refine wpList_append_own _ rfl _ _ 22 rfl r.heap.size 42 j0 _ 3 48 Try.underlying22 ji jz0 jz1 jz2 rfl (by omega) _ M.length _ rfl (own_ch HOW.out ((Ch.refl no wr).alloc _) (fun _ _ => no_not _)) ⟨wr.heap.size, 0, none⟩ 1 1 [.string yi, .slice A2 yp.length c2, .bool yn] rfl rfl (news_of wr [.string yi, .slice A2 yp.length c2, .bool yn] _) HONY.out (by unfold maxLen; omega) (by omega) (by simp; omega) ?_; intro v9 w_v9 hown9 hgrow9 _; obtain ⟨A_v9, c_v9, h_v9⟩ := own_shape hown9; subst h_v9; have HW_v9 := Lib.hid hown9; have HC_v9 : Hid (Ch no r w_v9) := Lib.hid (((HCwr.out).alloc _).trans (grown_ch hgrow9) (fun i hi h => by have := own_ge HOW.out i h.symm; omega)); have hwz_v9 := HC_v9.out.size; clear hown9 hgrow9)
          go_roundw
          case rel => exact ⟨k + 1, true, M ++ [⟨yi, yp, yn⟩], by omega, by go_num, rfl, Lib.hid (HYY.out rfl), Lib.hid ⟨_, by rw [List.length_append]; exact HW_v9.out, HN.out.snoc (x := ⟨yi, yp, yn⟩) HYV.out⟩, HC_v9⟩
          case measure => simp [intOf]; omega
        | false =>
          have hsl := rless_of x yi wr hx HYZ.out
          obtain ⟨d, hd⟩ : ∃ d, less x yi = d := ⟨_, rfl⟩
          rw [hd] at hsl HPP HSS
          clear hd
          cases d with
          | true =>
            go_wp2_with fail
            refine hsl.mono ?_
            rintro e w2 ⟨rfl, hc2⟩
            have HCw2 := Lib.hid (HCwr.out.then_ hc2)
            have HO2 := Lib.hid (own_ch HOW.out hc2 (fun _ _ => no_not _))
            have hwz2 := HCw2.out.size
            replace hc0 := (bCell (HCw2.out.blk HB0.out (no_not _)) 0).trans rfl
            replace hx0 := (bCell (HCw2.out.blk HXB.out (no_not _)) 0).trans rfl
            replace hx1 := (bCell (HCw2.out.blk HXB.out (no_not _)) 1).trans rfl
            replace hx2 := (bCell (HCw2.out.blk HXB.out (no_not _)) 2).trans rfl
            clear hc2 hsl p0 p1 p2 HOW
            go_upto_region 11 with (fail)
            go_wp2_with (first | (at_builtin; refine wpList_append_own _ rfl _ _ 22 rfl r.heap.size 42 j0 _ 3 48 Try.underlying22 ji jz0 jz1 jz2 rfl (by omega) _ M.length _ rfl (own_ch HO2.out ((Ch.refl no w2).alloc _) (fun _ _ => no_not _)) ⟨w2.heap.size, 0, none⟩ 1 1 [.string x, .slice A1 qs.length c1, .bool b] rfl rfl (news_of w2 [.string x, .slice A1 qs.length c1, .bool b] _) HONX.out (by unfold maxLen; omega) (by omega) (by simp; omega) ?_; intro v8 w_v8 hown9 hgrow9 _; obtain ⟨A_v8, c_v8, h_v8⟩ := own_shape hown9; subst h_v8; have HW_v8 := Lib.hid hown9; have HC_v8 : Hid (Ch no r w_v8) := Lib.hid (((HCw2.out).alloc _).trans (grown_ch hgrow9) (fun i hi h => by have := own_ge HO2.out i h.symm; omega)); have hwz_v8 := HC_v8.out.size; clear hown9 hgrow9; have HCw_v8 := HC_v8; have q0 := (bCell (HC_v8.out.blk HB0.out (no_not _)) 0).trans rfl; have p0 := cell_ch HC_v8.out P0.out; have p1 := cell_ch HC_v8.out P1.out; have p2 := cell_ch HC_v8.out P2.out) | (at_builtin; refine wpList_append_own _ rfl _ _ 22 rfl r.heap.size 42 j0 _ 3 48 Try.underlying22 ji jz0 jz1 jz2 rfl (by omega) _ (M.length + 1) _ rfl (own_ch HW_v8.out ((Ch.refl no w_v8).alloc _) (fun _ _ => no_not _)) ⟨w_v8.heap.size, 0, none⟩ 1 1 [.string yi, .slice A2 yp.length c2, .bool yn] rfl rfl (news_of w_v8 [.string yi, .slice A2 yp.length c2, .bool yn] _) HONY.out (by unfold maxLen; omega) (by omega) (by simp; omega) ?_; intro v9 w_v9 hown9 hgrow9 _; obtain ⟨A_v9, c_v9, h_v9⟩ := own_shape hown9; subst h_v9; have HW_v9 := Lib.hid hown9; have HC_v9 : Hid (Ch no r w_v9) := Lib.hid (((HCw_v8.out).alloc _).trans (grown_ch hgrow9) (fun i hi h => by have := own_ge HW_v8.out i h.symm; omega)); have hwz_v9 := HC_v9.out.size; clear hown9 hgrow9))
            go_roundw
            case rel => exact ⟨k + 1, true, M ++ [⟨x, qs, b⟩] ++ [⟨yi, yp, yn⟩], by omega, by go_num, rfl, Lib.hid (HPP.out (by simp) (by simp)), Lib.hid ⟨_, by rw [List.length_append, List.length_append]; exact HW_v9.out, (HN.out.snoc (x := ⟨x, qs, b⟩) HRX.out).snoc (x := ⟨yi, yp, yn⟩) HYV.out⟩, HC_v9⟩
            case measure => simp [intOf]; omega
          | false =>
            go_wp2_with fail
            refine hsl.mono ?_
            rintro e w2 ⟨rfl, hc2⟩
            have HCw2 := Lib.hid (HCwr.out.then_ hc2)
            have HO2 := Lib.hid (own_ch HOW.out hc2 (fun _ _ => no_not _))
            have hwz2 := HCw2.out.size
            replace hc0 := (bCell (HCw2.out.blk HB0.out (no_not _)) 0).trans rfl
            replace p0 := cell_ch hc2 p0
            replace p1 := cell_ch hc2 p1
            replace p2 := cell_ch hc2 p2
            clear hc2 hsl HOW hx0 hx1 hx2
            go_upto_region 13 with (fail)
            go_wp2_with (at_builtin; refine wpList_append_own _ rfl _ _ 22 rfl r.heap.size 42 j0 _ 3 48 Try.underlying22 ji jz0 jz1 jz2 rfl (by omega) _ M.length _ rfl (own_ch HO2.out ((Ch.refl no w2).alloc _) (fun _ _ => no_not _)) ⟨w2.heap.size, 0, none⟩ 1 1 [.string yi, .slice A2 yp.length c2, .bool yn] rfl rfl (news_of w2 [.string yi, .slice A2 yp.length c2, .bool yn] _) HONY.out (by unfold maxLen; omega) (by omega) (by simp; omega) ?_; intro v9 w_v9 hown9 hgrow9 _; obtain ⟨A_v9, c_v9, h_v9⟩ := own_shape hown9; subst h_v9; have HW_v9 := Lib.hid hown9; have HC_v9 : Hid (Ch no r w_v9) := Lib.hid (((HCw2.out).alloc _).trans (grown_ch hgrow9) (fun i hi h => by have := own_ge HO2.out i h.symm; omega)); have hwz_v9 := HC_v9.out.size; clear hown9 hgrow9)
            go_roundw
            case rel => exact ⟨k + 1, false, M ++ [⟨yi, yp, yn⟩], by omega, by go_num, rfl, Lib.hid (HSS.out (by simp) (by simp)), Lib.hid ⟨_, by rw [List.length_append]; exact HW_v9.out, HN.out.snoc (x := ⟨yi, yp, yn⟩) HYV.out⟩, HC_v9⟩
            case measure => simp [intOf]; omega
      · obtain rfl : k = L.length := by omega
        have HNL := Lib.hid (insN_len ⟨x, qs, b⟩ L)
        cases q with
        | true =>
          have HNN := Lib.hid HF.out.done
          have hNL : M.length ≤ L.length + 1 := by rw [← HNN.out]; exact Nat.le_of_eq (insN_len _ _)
          have hNP : 0 < M.length := by rw [← HNN.out, insN_len]; omega
          have HWT := HOW; have HNT := HN
          clear HF hML hc0 hx0 hx1 hx2 HOW HN HNL
          obtain ⟨NN, hNN⟩ : ∃ NN, NN = M := ⟨_, rfl⟩
          subst hNN
          obtain ⟨cT, hcT⟩ : ∃ cT, cT = cm := ⟨_, rfl⟩
          subst hcT
          obtain ⟨ad, rfl, hadr, hadw⟩ := own_some HWT.out (by omega)
          have HCN : Hid (OwnN wr r (.slice (some ad) NN.length cT) NN) := Lib.hid ⟨_, HWT.out, HNT.out⟩
          have hR0 := (bCell (HCwr.out.blk HB0.out (no_not _)) 0).trans rfl
          have hF0 := bFree (HCwr.out.blk HB0.out (no_not _)) 0
          go_upto_region 17 with (fail)
          have HG2 : Hid (RefG (wr.setCell ⟨R, 0, none⟩ (.slice (some ad) NN.length cT)) r R ad cT NN) := Lib.hid (refG_store HCN.out HCwr.out HB0.out (fun s e => by cases e) hadr)
          have HW2 : Hid (Ch (Aa.one R) w (wr.setCell ⟨R, 0, none⟩ (.slice (some ad) NN.length cT))) := Lib.hid (Ch.set (S := Aa.one R) ((HCR.out.then_ HCwr.out).mono (fun _ h => h.elim)) (p := ⟨R, 0, none⟩) (.inl rfl) _)
          have HX2 : Hid ((wr.setCell ⟨R, 0, none⟩ (.slice (some ad) NN.length cT)).heap[X]? = some (.cells #[.string x, .slice A1 qs.length c1, .bool b] 42 (0, 0))) := Lib.hid ((Ch.set1 wr R 0 _).blk (HCwr.out.blk HXB.out (no_not _)) (fun e => by have := HXR.out; have e' : X = R := e; omega))
          have hsz2 : Hid ((wr.setCell ⟨R, 0, none⟩ (.slice (some ad) NN.length cT)).heap.size = wr.heap.size) := Lib.hid (by simp [World.setCell])
          generalize wr.setCell ⟨R, 0, none⟩ (.slice (some ad) NN.length cT) = w2 at HG2 HW2 HX2 hsz2 ⊢
          have hx2 : w2.cell? ⟨X, 2, none⟩ = some (.bool b) := (bCell HX2.out 2).trans rfl
          clear hR0 hF0
          cases b with
          | false =>
            go_wp2_with fail
            go_ret
            exact ⟨_, rfl, by rw [HRA.out]; exact ⟨by simp, .inl ⟨rfl, rfl⟩⟩, by rw [HRA.out, if_neg (by simp), HNN.out]; exact HG2.out.ref, HW2.out⟩
          | true =>
            have HO3 : Hid (OwnS (w2.alloc (.cells #[.string x] 30)) w2.heap.size (.slice (some ⟨w2.heap.size, 0, none⟩) 1 1) [x]) := Lib.hid (own_one w2 x _ (Nat.le_refl _))
            have HG3 : Hid (RefG (w2.alloc (.cells #[.string x] 30)) r R ad cT NN) := Lib.hid (HG2.out.ch ((Ch.refl no w2).alloc _) (no_not _) (no_not _) (fun _ h => h.elim))
            have HW3 : Hid (Ch (Aa.one R) w (w2.alloc (.cells #[.string x] 30))) := Lib.hid (HW2.out.alloc _)
            have HST : Hid (Set (rsettle (cnt NN) NN [x]) (1 + cnt NN) NN [x] 0) := Lib.hid (Set.first NN x)
            have HRB : Hid (radd L x ps = rsettle (cnt NN) NN [x]) := Lib.hid (by rw [HRA.out, if_pos rfl, HNN.out])
            have hsz3 : w2.heap.size ≤ (w2.alloc (.cells #[.string x] 30)).heap.size := by simp
            have hcn := cnt_le NN
            obtain ⟨n0, hn0⟩ : ∃ n0, 1 + cnt NN = n0 := ⟨_, rfl⟩
            obtain ⟨RS, hRS⟩ : ∃ RS, rsettle (cnt NN) NN [x] = RS := ⟨_, rfl⟩
            obtain ⟨nn, hnn⟩ : ∃ nn, NN.length = nn := ⟨_, rfl⟩
            have hnn1 : nn ≤ 1001 := by omega
            have hn01 : n0 ≤ 1002 := by omega
            rw [hn0, hRS] at HST
            rw [hRS] at HRB
            have HRR : Hid (R < r.heap.size) := Lib.hid (blk_lt' HB0.out)
            have HWR : Hid (w.heap.size ≤ r.heap.size) := Lib.hid HCR.out.size
            have hK0 : NN.length = nn := hnn
            clear HX2 HW2 HG2 HCN hn0 hRS hcn hnn HRA HWT HNT
            go_upto_region 21 with (fail)
            obtain ⟨N2, hN2⟩ : ∃ N2, w2.heap.size = N2 := ⟨_, rfl⟩
            have hadN : ad.block < N2 := by have := hsz2.out; omega
            have hrN : r.heap.size ≤ N2 := by have := hsz2.out; omega
            generalize w2.alloc (.cells #[.string x] 30) = w3 at HO3 HG3 HW3 hsz3 ⊢
            rw [hN2] at HO3 hsz3 ⊢
            clear hsz2 hadw hN2 hx2
            go_loopw [11, 12] (fun o i wr => ∃ (k : Nat) (K : List Nd) (ou : List Nm), k ≤ nn ∧ i = .int .i64 k ∧ K.length = nn ∧ Hid (Set RS n0 K ou k) ∧ Hid (RefG wr r R ad cT K) ∧ Hid (OwnS wr N2 o ou) ∧ Hid (Ch (Aa.one R) w wr) ∧ N2 ≤ wr.heap.size) (fun o i _ => (n0 - lenOf o) * (nn + 1) + (nn - (intOf i).toNat))
            case atStart => exact ⟨0, NN, [x], by omega, rfl, hK0, HST, HG3, HO3, HW3, by omega⟩
            case round =>
              clear HO3 HG3 HW3 HST hK0
              obtain ⟨k, K, ou, hk, rfl, hK, HS, HG, HO, HW, hwz⟩ := hrel
              have hou := HS.out.2.1
              obtain ⟨Ao, co, hso⟩ := own_shape HO.out
              subst hso
              have hc0 := (bCell HG.out.box 0).trans rfl
              by_cases hlt : k < K.length
              · obtain ⟨ad', A2, c2, had, p0, p1, hr2⟩ := nd_at HG.out.row k hlt
                cases had
                obtain ⟨ad', had, p2⟩ := nd_at3 HG.out.row k hlt
                cases had
                have HSN := Lib.hid (HS.out.next hlt)
                have HSE := Lib.hid (HS.out.enter hlt)
                have HKG := Lib.hid (List.getElem?_eq_getElem hlt)
                have HFZ := Lib.hid (refG_free HG.out (by omega))
                obtain ⟨y, hy⟩ : ∃ y, K[k] = y := ⟨_, rfl⟩
                rw [hy] at p0 p1 p2 hr2 HSN HSE HKG
                clear hy
                obtain ⟨yi, yp, yn⟩ := y
                simp only at p0 p1 p2 hr2 HSN HSE
                cases yn with
                | true =>
                  go_wp2_with fail
                  go_roundw
                  case rel => exact ⟨k + 1, K, ou, by omega, by go_num, hK, Lib.hid (HSN.out rfl), HG, HO, HW, hwz⟩
                  case measure => simp [intOf]; omega
                | false =>
                  have hs := rready_of R K A2 c2 yp wr HG.out.ref hr2
                  obtain ⟨q, hq⟩ : ∃ q, rready K yp = q := ⟨_, rfl⟩
                  rw [hq] at hs HSN HSE
                  clear hq hr2
                  cases q with
                  | false =>
                    go_wp2_with fail
                    refine hs.mono ?_
                    rintro e w' ⟨rfl, hw⟩
                    subst hw
                    clear hs
                    go_wp2_with fail
                    go_roundw
                    case rel => exact ⟨k + 1, K, ou, by omega, by go_num, hK, Lib.hid (HSN.out rfl), HG, HO, HW, hwz⟩
                    case measure => simp [intOf]; omega
                  | true =>
                    have HSE2 := Lib.hid (HSE.out rfl rfl)
                    have hfz := HFZ.out ((ad.add (k * 3)).off + 2) (k * 3)
                    go_wp2_with fail
                    refine hs.mono ?_
                    rintro e w' ⟨rfl, hw⟩
                    subst hw
                    clear hs HSN HSE
                    go_upto_region 26 with (fail)
                    have HG4 : Hid (RefG (wr.setCell ⟨(ad.add (k * 3)).block, (ad.add (k * 3)).off + 2, none⟩ (.bool true)) r R ad cT (K.set k ⟨yi, yp, true⟩)) := Lib.hid (HG.out.set k ⟨yi, yp, false⟩ HKG.out)
                    have HW4 : Hid (Ch (Aa.one R) w (wr.setCell ⟨(ad.add (k * 3)).block, (ad.add (k * 3)).off + 2, none⟩ (.bool true))) := Lib.hid (HW.out.set (p := ⟨(ad.add (k * 3)).block, (ad.add (k * 3)).off + 2, none⟩) (.inr (by show w.heap.size ≤ (ad.add (k * 3)).block; rw [add_block]; have := HWR.out; omega)) _)
                    have HO4 : Hid (OwnS (wr.setCell ⟨(ad.add (k * 3)).block, (ad.add (k * 3)).off + 2, none⟩ (.bool true)) N2 (.slice Ao ou.length co) ou) := Lib.hid (own_ch HO.out (Ch.set1 wr _ _ _) (fun j hj e => by have := own_ge HO.out j hj; have e' : j = (ad.add (k * 3)).block := e; rw [add_block] at e'; omega))
                    have hsz4 : N2 ≤ (wr.setCell ⟨(ad.add (k * 3)).block, (ad.add (k * 3)).off + 2, none⟩ (.bool true)).heap.size := by simpa [World.setCell] using hwz
                    generalize wr.setCell ⟨(ad.add (k * 3)).block, (ad.add (k * 3)).off + 2, none⟩ (.bool true) = w4 at HG4 HW4 HO4 hsz4 ⊢
                    obtain ⟨ad', A5, c5, had, p5, _, _⟩ := nd_at HG4.out.row k (by rw [List.length_set]; exact hlt)
                    cases had
                    simp only [List.getElem_set_self] at p5
                    have hK4 : (K.set k ⟨yi, yp, true⟩).length = nn := by rw [List.length_set]; exact hK
                    obtain ⟨K4, hK4e⟩ : ∃ K4, K.set k ⟨yi, yp, true⟩ = K4 := ⟨_, rfl⟩
                    rw [hK4e] at HG4 hK4 HSE2
                    have q0 := (bCell HG4.out.box 0).trans rfl
                    have hkn : (k : Int) < (K4.length : Int) := by omega
                    clear hc0 p0 p1 p2 hfz hK4e HG HW HO HKG HFZ HS
                    have HRZ : Hid (El.str.Row (w4.alloc (.cells #[.string yi] 30)) (some ⟨w4.heap.size, 0, none⟩) 1 [yi]) := Lib.hid (row_of_own (own_one w4 yi 0 (Nat.zero_le _)))
                    go_wp2_with (at_builtin; refine app_row (fun _ => rfl) rfl _ _ 27 rfl N2 30 i0 _ 16 Try.underlying27 hi hz0 hz1 hz2 rfl _ ou.length _ rfl (own_ch HO4.out ((Ch.refl no w4).alloc _) (fun _ _ => no_not _)) (some ⟨w4.heap.size, 0, none⟩) 1 [yi] rfl HRZ.out (by simp; unfold maxLen; omega) (by simp; omega) (by simp; omega) ?_; intro v9 w_v9 hown9 hgrow9 _; obtain ⟨A_v9, c_v9, h_v9⟩ := own_shape hown9; subst h_v9; have HO_v9 := Lib.hid hown9; have HC_v9 : Hid (Ch (fun k => N2 ≤ k) w4 w_v9) := Lib.hid ((((Ch.refl _ w4).alloc _)).same ((grown_ch hgrow9).mono (fun k h => own_ge HO4.out k h.symm))); clear hown9 hgrow9)
                    go_roundw
                    case rel => exact ⟨0, K4, ou ++ [yi], by omega, by go_num, hK4, HSE2, Lib.hid (HG4.out.ch HC_v9.out (by have := HRR.out; show ¬ N2 ≤ R; omega) (by show ¬ N2 ≤ ad.block; omega) (fun j hj => by have hj' : N2 ≤ j := hj; omega)), Lib.hid (by unfold OwnS; simp only [List.length_append, List.map_append]; simpa using HO_v9.out), Lib.hid (HW4.out.trans HC_v9.out (fun i hi h => by have h' : N2 ≤ i := h; have := HWR.out; omega)), by have := HC_v9.out.size; omega⟩
                    case measure =>
                      have h2 := HSE2.out.2.1
                      rw [List.length_append] at h2
                      exact meas (n0 := n0) (o := ou.length) (n := nn) (k := k) (by simp at h2; omega) (by omega)
              · obtain rfl : k = nn := by omega
                have hd := HS.out
                rw [← hK] at hd
                have HD := Lib.hid hd.done
                clear hd
                go_wp2_with fail
                go_ret
                exact ⟨_, rfl, by rw [HRB.out, ← HD.out]; exact own_less HO.out (by have := HWR.out; omega), by rw [HRB.out, ← HD.out]; exact HG.out.ref, HW.out⟩
        | false =>
          have HNN := Lib.hid HF.out.last
          clear HF
          go_upto_region 16 with (at_builtin; refine wpList_append_own _ rfl _ _ 22 rfl r.heap.size 42 j0 _ 3 48 Try.underlying22 ji jz0 jz1 jz2 rfl (by omega) _ M.length _ rfl (own_ch HOW.out ((Ch.refl no wr).alloc _) (fun _ _ => no_not _)) ⟨wr.heap.size, 0, none⟩ 1 1 [.string x, .slice A1 qs.length c1, .bool b] rfl rfl (news_of wr [.string x, .slice A1 qs.length c1, .bool b] _) HONX.out (by unfold maxLen; omega) (by omega) (by simp; omega) ?_; intro v9 w_v9 hown9 hgrow9 _; obtain ⟨A_v9, c_v9, h_v9⟩ := own_shape hown9; subst h_v9; have HW_v9 := Lib.hid hown9; have HC_v9 : Hid (Ch no r w_v9) := Lib.hid (((HCwr.out).alloc _).trans (grown_ch hgrow9) (fun i hi h => by have := own_ge HOW.out i h.symm; omega)); have hwz_v9 := HC_v9.out.size; clear hown9 hgrow9)
          have HCw_v9 := HC_v9
          have HNT := Lib.hid (HN.out.snoc (x := ⟨x, qs, b⟩) HRX.out)
          obtain ⟨NN, hNN⟩ : ∃ NN, M ++ [⟨x, qs, b⟩] = NN := ⟨_, rfl⟩
          have hNM : M.length + 1 = NN.length := by rw [← hNN, List.length_append]; rfl
          rw [hNN] at HNN
          simp only [] at HNT
          rw [hNN] at HNT
          have hNL : NN.length ≤ L.length + 1 := by rw [← HNN.out]; exact Nat.le_of_eq (insN_len _ _)
          have hNP : 0 < NN.length := by omega
          rw [hNM] at HW_v9 ⊢
          have HWT := HW_v9
          clear hML hx0 hx1 hx2 HOW HN HNL HC_v9 HW_v9 hNN hNM HCwr
          obtain ⟨cT, hcT⟩ : ∃ cT, cT = c_v9 := ⟨_, rfl⟩
          subst hcT
          obtain ⟨ad, rfl, hadr, hadw⟩ := own_some HWT.out (by omega)
          have HCN : Hid (OwnN w_v9 r (.slice (some ad) NN.length cT) NN) := Lib.hid ⟨_, HWT.out, HNT.out⟩
          have hR0 := (bCell (HCw_v9.out.blk HB0.out (no_not _)) 0).trans rfl
          have hF0 := bFree (HCw_v9.out.blk HB0.out (no_not _)) 0
          go_upto_region 17 with (fail)
          have HG2 : Hid (RefG (w_v9.setCell ⟨R, 0, none⟩ (.slice (some ad) NN.length cT)) r R ad cT NN) := Lib.hid (refG_store HCN.out HCw_v9.out HB0.out (fun s e => by cases e) hadr)
          have HW2 : Hid (Ch (Aa.one R) w (w_v9.setCell ⟨R, 0, none⟩ (.slice (some ad) NN.length cT))) := Lib.hid (Ch.set (S := Aa.one R) ((HCR.out.then_ HCw_v9.out).mono (fun _ h => h.elim)) (p := ⟨R, 0, none⟩) (.inl rfl) _)
          have HX2 : Hid ((w_v9.setCell ⟨R, 0, none⟩ (.slice (some ad) NN.length cT)).heap[X]? = some (.cells #[.string x, .slice A1 qs.length c1, .bool b] 42 (0, 0))) := Lib.hid ((Ch.set1 w_v9 R 0 _).blk (HCw_v9.out.blk HXB.out (no_not _)) (fun e => by have := HXR.out; have e' : X = R := e; omega))
          have hsz2 : Hid ((w_v9.setCell ⟨R, 0, none⟩ (.slice (some ad) NN.length cT)).heap.size = w_v9.heap.size) := Lib.hid (by simp [World.setCell])
          generalize w_v9.setCell ⟨R, 0, none⟩ (.slice (some ad) NN.length cT) = w2 at HG2 HW2 HX2 hsz2 ⊢
          have hx2 : w2.cell? ⟨X, 2, none⟩ = some (.bool b) := (bCell HX2.out 2).trans rfl
          clear hR0 hF0
          cases b with
          | false =>
            go_wp2_with fail
            go_ret
            exact ⟨_, rfl, by rw [HRA.out]; exact ⟨by simp, .inl ⟨rfl, rfl⟩⟩, by rw [HRA.out, if_neg (by simp), HNN.out]; exact HG2.out.ref, HW2.out⟩
          | true =>
            have HO3 : Hid (OwnS (w2.alloc (.cells #[.string x] 30)) w2.heap.size (.slice (some ⟨w2.heap.size, 0, none⟩) 1 1) [x]) := Lib.hid (own_one w2 x _ (Nat.le_refl _))
            have HG3 : Hid (RefG (w2.alloc (.cells #[.string x] 30)) r R ad cT NN) := Lib.hid (HG2.out.ch ((Ch.refl no w2).alloc _) (no_not _) (no_not _) (fun _ h => h.elim))
            have HW3 : Hid (Ch (Aa.one R) w (w2.alloc (.cells #[.string x] 30))) := Lib.hid (HW2.out.alloc _)
            have HST : Hid (Set (rsettle (cnt NN) NN [x]) (1 + cnt NN) NN [x] 0) := Lib.hid (Set.first NN x)
            have HRB : Hid (radd L x ps = rsettle (cnt NN) NN [x]) := Lib.hid (by rw [HRA.out, if_pos rfl, HNN.out])
            have hsz3 : w2.heap.size ≤ (w2.alloc (.cells #[.string x] 30)).heap.size := by simp
            have hcn := cnt_le NN
            obtain ⟨n0, hn0⟩ : ∃ n0, 1 + cnt NN = n0 := ⟨_, rfl⟩
            obtain ⟨RS, hRS⟩ : ∃ RS, rsettle (cnt NN) NN [x] = RS := ⟨_, rfl⟩
            obtain ⟨nn, hnn⟩ : ∃ nn, NN.length = nn := ⟨_, rfl⟩
            have hnn1 : nn ≤ 1001 := by omega
            have hn01 : n0 ≤ 1002 := by omega
            rw [hn0, hRS] at HST
            rw [hRS] at HRB
            have HRR : Hid (R < r.heap.size) := Lib.hid (blk_lt' HB0.out)
            have HWR : Hid (w.heap.size ≤ r.heap.size) := Lib.hid HCR.out.size
            have hK0 : NN.length = nn := hnn
            clear HX2 HW2 HG2 HCN hn0 hRS hcn hnn HRA HWT HNT
            go_upto_region 21 with (fail)
            obtain ⟨N2, hN2⟩ : ∃ N2, w2.heap.size = N2 := ⟨_, rfl⟩
            have hadN : ad.block < N2 := by have := hsz2.out; omega
            have hrN : r.heap.size ≤ N2 := by have := hsz2.out; omega
            generalize w2.alloc (.cells #[.string x] 30) = w3 at HO3 HG3 HW3 hsz3 ⊢
            rw [hN2] at HO3 hsz3 ⊢
            clear hsz2 hadw hN2 hx2
            go_loopw [11, 12] (fun o i wr => ∃ (k : Nat) (K : List Nd) (ou : List Nm), k ≤ nn ∧ i = .int .i64 k ∧ K.length = nn ∧ Hid (Set RS n0 K ou k) ∧ Hid (RefG wr r R ad cT K) ∧ Hid (OwnS wr N2 o ou) ∧ Hid (Ch (Aa.one R) w wr) ∧ N2 ≤ wr.heap.size) (fun o i _ => (n0 - lenOf o) * (nn + 1) + (nn - (intOf i).toNat))
            case atStart => exact ⟨0, NN, [x], by omega, rfl, hK0, HST, HG3, HO3, HW3, by omega⟩
            case round =>
              clear HO3 HG3 HW3 HST hK0
              obtain ⟨k, K, ou, hk, rfl, hK, HS, HG, HO, HW, hwz⟩ := hrel
              have hou := HS.out.2.1
              obtain ⟨Ao, co, hso⟩ := own_shape HO.out
              subst hso
              have hc0 := (bCell HG.out.box 0).trans rfl
              by_cases hlt : k < K.length
              · obtain ⟨ad', A2, c2, had, p0, p1, hr2⟩ := nd_at HG.out.row k hlt
                cases had
                obtain ⟨ad', had, p2⟩ := nd_at3 HG.out.row k hlt
                cases had
                have HSN := Lib.hid (HS.out.next hlt)
                have HSE := Lib.hid (HS.out.enter hlt)
                have HKG := Lib.hid (List.getElem?_eq_getElem hlt)
                have HFZ := Lib.hid (refG_free HG.out (by omega))
                obtain ⟨y, hy⟩ : ∃ y, K[k] = y := ⟨_, rfl⟩
                rw [hy] at p0 p1 p2 hr2 HSN HSE HKG
                clear hy
                obtain ⟨yi, yp, yn⟩ := y
                simp only at p0 p1 p2 hr2 HSN HSE
                cases yn with
                | true =>
                  go_wp2_with fail
                  go_roundw
                  case rel => exact ⟨k + 1, K, ou, by omega, by go_num, hK, Lib.hid (HSN.out rfl), HG, HO, HW, hwz⟩
                  case measure => simp [intOf]; omega
                | false =>
                  have hs := rready_of R K A2 c2 yp wr HG.out.ref hr2
                  obtain ⟨q, hq⟩ : ∃ q, rready K yp = q := ⟨_, rfl⟩
                  rw [hq] at hs HSN HSE
                  clear hq hr2
                  cases q with
                  | false =>
                    go_wp2_with fail
                    refine hs.mono ?_
                    rintro e w' ⟨rfl, hw⟩
                    subst hw
                    clear hs
                    go_wp2_with fail
                    go_roundw
                    case rel => exact ⟨k + 1, K, ou, by omega, by go_num, hK, Lib.hid (HSN.out rfl), HG, HO, HW, hwz⟩
                    case measure => simp [intOf]; omega
                  | true =>
                    have HSE2 := Lib.hid (HSE.out rfl rfl)
                    have hfz := HFZ.out ((ad.add (k * 3)).off + 2) (k * 3)
                    go_wp2_with fail
                    refine hs.mono ?_
                    rintro e w' ⟨rfl, hw⟩
                    subst hw
                    clear hs HSN HSE
                    go_upto_region 26 with (fail)
                    have HG4 : Hid (RefG (wr.setCell ⟨(ad.add (k * 3)).block, (ad.add (k * 3)).off + 2, none⟩ (.bool true)) r R ad cT (K.set k ⟨yi, yp, true⟩)) := Lib.hid (HG.out.set k ⟨yi, yp, false⟩ HKG.out)
                    have HW4 : Hid (Ch (Aa.one R) w (wr.setCell ⟨(ad.add (k * 3)).block, (ad.add (k * 3)).off + 2, none⟩ (.bool true))) := Lib.hid (HW.out.set (p := ⟨(ad.add (k * 3)).block, (ad.add (k * 3)).off + 2, none⟩) (.inr (by show w.heap.size ≤ (ad.add (k * 3)).block; rw [add_block]; have := HWR.out; omega)) _)
                    have HO4 : Hid (OwnS (wr.setCell ⟨(ad.add (k * 3)).block, (ad.add (k * 3)).off + 2, none⟩ (.bool true)) N2 (.slice Ao ou.length co) ou) := Lib.hid (own_ch HO.out (Ch.set1 wr _ _ _) (fun j hj e => by have := own_ge HO.out j hj; have e' : j = (ad.add (k * 3)).block := e; rw [add_block] at e'; omega))
                    have hsz4 : N2 ≤ (wr.setCell ⟨(ad.add (k * 3)).block, (ad.add (k * 3)).off + 2, none⟩ (.bool true)).heap.size := by simpa [World.setCell] using hwz
                    generalize wr.setCell ⟨(ad.add (k * 3)).block, (ad.add (k * 3)).off + 2, none⟩ (.bool true) = w4 at HG4 HW4 HO4 hsz4 ⊢
                    obtain ⟨ad', A5, c5, had, p5, _, _⟩ := nd_at HG4.out.row k (by rw [List.length_set]; exact hlt)
                    cases had
                    simp only [List.getElem_set_self] at p5
                    have hK4 : (K.set k ⟨yi, yp, true⟩).length = nn := by rw [List.length_set]; exact hK
                    obtain ⟨K4, hK4e⟩ : ∃ K4, K.set k ⟨yi, yp, true⟩ = K4 := ⟨_, rfl⟩
                    rw [hK4e] at HG4 hK4 HSE2
                    have q0 := (bCell HG4.out.box 0).trans rfl
                    have hkn : (k : Int) < (K4.length : Int) := by omega
                    clear hc0 p0 p1 p2 hfz hK4e HG HW HO HKG HFZ HS
                    have HRZ : Hid (El.str.Row (w4.alloc (.cells #[.string yi] 30)) (some ⟨w4.heap.size, 0, none⟩) 1 [yi]) := Lib.hid (row_of_own (own_one w4 yi 0 (Nat.zero_le _)))
                    go_wp2_with (at_builtin; refine app_row (fun _ => rfl) rfl _ _ 27 rfl N2 30 i0 _ 16 Try.underlying27 hi hz0 hz1 hz2 rfl _ ou.length _ rfl (own_ch HO4.out ((Ch.refl no w4).alloc _) (fun _ _ => no_not _)) (some ⟨w4.heap.size, 0, none⟩) 1 [yi] rfl HRZ.out (by simp; unfold maxLen; omega) (by simp; omega) (by simp; omega) ?_; intro v9 w_v9 hown9 hgrow9 _; obtain ⟨A_v9, c_v9, h_v9⟩ := own_shape hown9; subst h_v9; have HO_v9 := Lib.hid hown9; have HC_v9 : Hid (Ch (fun k => N2 ≤ k) w4 w_v9) := Lib.hid ((((Ch.refl _ w4).alloc _)).same ((grown_ch hgrow9).mono (fun k h => own_ge HO4.out k h.symm))); clear hown9 hgrow9)
                    go_roundw
                    case rel => exact ⟨0, K4, ou ++ [yi], by omega, by go_num, hK4, HSE2, Lib.hid (HG4.out.ch HC_v9.out (by have := HRR.out; show ¬ N2 ≤ R; omega) (by show ¬ N2 ≤ ad.block; omega) (fun j hj => by have hj' : N2 ≤ j := hj; omega)), Lib.hid (by unfold OwnS; simp only [List.length_append, List.map_append]; simpa using HO_v9.out), Lib.hid (HW4.out.trans HC_v9.out (fun i hi h => by have h' : N2 ≤ i := h; have := HWR.out; omega)), by have := HC_v9.out.size; omega⟩
                    case measure =>
                      have h2 := HSE2.out.2.1
                      rw [List.length_append] at h2
                      exact meas (n0 := n0) (o := ou.length) (n := nn) (k := k) (by simp at h2; omega) (by omega)
              · obtain rfl : k = nn := by omega
                have hd := HS.out
                rw [← hK] at hd
                have HD := Lib.hid hd.done
                clear hd
                go_wp2_with fail
                go_ret
                exact ⟨_, rfl, by rw [HRB.out, ← HD.out]; exact own_less HO.out (by have := HWR.out; omega), by rw [HRB.out, ← HD.out]; exact HG.out.ref, HW.out⟩
  · have HA : Hid (radd L x ps = (L, [])) := Lib.hid (by unfold radd; rw [h3]; rfl)
    rw [h1] at hf
    clear h1 h2 h3
    go_enter Try.func21, Try.ntmps21
    go_wp2_with fail
    refine hf.mono ?_
    rintro e w' ⟨rfl, hw⟩
    subst hw
    clear hf
    go_wp2_with fail
    go_ret
    exact ⟨_, rfl, by rw [HA.out]; exact ⟨by simp, .inl ⟨rfl, rfl⟩⟩, by rw [HA.out]; exact HV.out, Ch.refl _ _⟩
end Go.Proofs.Ytlmcbmgdhpoedaa.Fl
