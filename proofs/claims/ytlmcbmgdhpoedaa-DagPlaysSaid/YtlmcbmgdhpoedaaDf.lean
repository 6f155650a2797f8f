/- Sorted ids: of a map's keys, of a list; each once. By the shelf's contracts. -/
import Derived.Test.YtlmcbmgdhpoedaaSh
import Derived.Test.YtlmcbmgdhpoedaaDe
namespace Go.Proofs.Ytlmcbmgdhpoedaa.Df
open Go Go.RowKit Go.Maps Go.Sort Go.Shelf Go.Proofs.Ytlmcbmgdhpoedaa.Aa Go.Proofs.Ytlmcbmgdhpoedaa.Vw Go.Proofs.Ytlmcbmgdhpoedaa.Mp Go.Proofs.Ytlmcbmgdhpoedaa.Mj Go.Proofs.Ytlmcbmgdhpoedaa.Da Go.Proofs.Ytlmcbmgdhpoedaa.Db Go.Proofs.Ytlmcbmgdhpoedaa.Dc Go.Proofs.Ytlmcbmgdhpoedaa.De
set_option linter.unusedVariables false
set_option linter.unusedSimpArgs false

/-- Bytes as a name. -/
def toNm (l : List UInt8) : Nm := ⟨l.toArray⟩
theorem toNm_list (x : Nm) : toNm x.data.toList = x := by unfold toNm; exact ByteArray.ext (by simp)
theorem list_toNm (l : List UInt8) : (toNm l).data.toList = l := by simp [toNm]
theorem map_enc (l : List (List UInt8)) : l.map encStr = (l.map toNm).map Value.string := by
  rw [List.map_map]; rfl
theorem map_enc2 (l : List Nm) : (l.map (fun x => x.data.toList)).map encStr = l.map Value.string := by
  rw [List.map_map]
  congr 1
/-- What the library's sort makes of it. -/
theorem sort_nm {ss : List (List UInt8)} {xs : List Nm} (h : ss.Perm (xs.map (fun x => x.data.toList))) : (ss.mergeSort (fun x y => decide (x ≤ y))).map toNm = srt xs := by
  have tr : ∀ a b c : List UInt8, (decide (a ≤ b)) = true → (decide (b ≤ c)) = true → (decide (a ≤ c)) = true := fun a b c h1 h2 => by simp only [decide_eq_true_eq] at *; exact List.le_trans h1 h2
  have to : ∀ a b : List UInt8, ((decide (a ≤ b)) || (decide (b ≤ a))) = true := fun a b => by simp only [Bool.or_eq_true, decide_eq_true_eq]; exact List.le_total a b
  refine sorted_unique ?_ (srt_sorted xs) ?_
  · rw [List.pairwise_map]
    refine (List.pairwise_mergeSort tr to ss).imp ?_
    intro a b hab
    unfold le
    rw [list_toNm, list_toNm]
    exact hab
  · refine (((List.mergeSort_perm ss _).trans h).map toNm).trans ?_
    rw [List.map_map]
    have : (xs.map (toNm ∘ fun x : Nm => x.data.toList)) = xs := by
      conv => rhs; rw [← List.map_id xs]
      apply List.map_congr_left
      intro x _
      exact toNm_list x
    rw [this]
    exact (srt_perm xs).symm

/-- How a map's values read here: as they are. -/
def asIs (v : Value) : Option (DataW Value × List MemPlace) := some (.held v, [])
def ent (p : Nm × Value) : Lit × DataW Value := (.string p.1.data.toList, .held p.2)
def datum (m : List (Nm × Value)) : DataW Value := .map ((m.map ent).foldr DataW.insert [])
theorem map_owns {P : Program} {kt : TypeId} (hk : P.underlying kt = some .string) {w : World} {b : Nat} {m : List (Nm × Value)} (h : MapV Value.string w b m) (hm : m.length ≤ 1000000) (hz : ∀ p ∈ m, p.1.size ≤ maxLen) :
    w.ownsMap P kt asIs b m.length (datum m) := by
  obtain ⟨⟨es, clock, hb, hst, he⟩, hu⟩ := h
  have hlen : es.size = m.length := by
    have := congrArg List.length he
    simpa using this
  have hrd : ∀ x ∈ es.toList, ∃ p ∈ m, x.key = .string p.1 ∧ x.val = p.2 := by
    intro x hx
    have h1 : (x.key, x.val) ∈ m.map (fun p => (Value.string p.1, p.2)) := by rw [← he]; exact List.mem_map.2 ⟨x, hx, rfl⟩
    obtain ⟨p, hp, hpe⟩ := List.mem_map.1 h1
    exact ⟨p, hp, (Prod.mk.inj hpe).1.symm, (Prod.mk.inj hpe).2.symm⟩
  have hr : ∀ x ∈ es.toList, ∀ p : Nm × Value, p ∈ m → x.key = .string p.1 → x.val = p.2 → WideElems.rd P kt asIs x = some (ent p) := by
    intro x hx p hp h1 h2
    unfold WideElems.rd asIs ent
    rw [h1, h2]
    have h3 : keyOf P kt (.string p.1) = some (.string p.1.data.toList) := by
      simp [keyOf, hk, mapKey, hz p hp]
    rw [h3]; rfl
  refine ⟨es, clock, hb, ⟨by rw [hlen]; unfold maxLen; omega, hst, fun x hx => ?_⟩, by omega, ?_⟩
  · obtain ⟨p, hp, h1, h2⟩ := hrd x hx
    exact ⟨_, hr x hx p hp h1 h2⟩
  · unfold datum
    congr 2
    apply List.ext_getElem?
    intro i
    have hi : (es.toList.map (fun e => (e.key, e.val)))[i]? = (m.map (fun p => (Value.string p.1, p.2)))[i]? := by rw [he]
    rw [List.getElem?_map, List.getElem?_map] at hi
    rw [List.getElem?_map, List.getElem?_map]
    cases hx : es.toList[i]? with
    | none =>
      rw [hx] at hi
      cases hp : m[i]? with
      | none => rfl
      | some p => rw [hp] at hi; simp at hi
    | some x =>
      rw [hx] at hi
      cases hp : m[i]? with
      | none => rw [hp] at hi; simp at hi
      | some p =>
        rw [hp] at hi
        have e := Prod.mk.inj (Option.some.inj hi)
        have := hr x (List.mem_of_getElem? hx) p (List.mem_of_getElem? hp) e.1 e.2
        simp only [Option.map_some]
        rw [WideElems.rg_of this]
theorem datum_keys (m : List (Nm × Value)) : (strKeys (datum m)).Perm ((m.map (·.1)).map (fun x => x.data.toList)) := by
  have h1 := (WideShapes.sorted_perm (m.map ent)).map (fun p : Lit × DataW Value => strOf p.1)
  refine h1.trans ?_
  rw [List.map_map, List.map_map]
  exact List.Perm.refl _
theorem datum_size (m : List (Nm × Value)) : Maps.size (datum m) = m.length := by
  have h1 := (WideShapes.sorted_perm (m.map ent)).length_eq
  rw [List.length_map] at h1
  exact h1

/-- slices.Sort's two contracts, at the fence that asks nothing. -/
theorem sortsI (m : Nat) : AnyZ.SortsIn Try.prog Try.sortedI_ren Fence.wide m :=
  ⟨fun blk off cap ss W hH hblk hsz => callsIn_wide.2 (AnyM.slices_Sort_string Try.sortI blk off cap ss W hH hblk hsz),
   fun p cap W => callsIn_wide.2 (AnyM.slices_Sort_string_none Try.sortI p cap W)⟩
theorem row_sorted {w : World} {B : Nat} {e : TypeId} {v : Value} {ss : List (List UInt8)} {xs : List Nm} (hp : ss.Perm (xs.map (fun x => x.data.toList))) (h : w.ownsRow B e 1 v ss.length ((ss.mergeSort (fun x y => decide (x ≤ y))).map encStr)) : w.ownsRow B e 1 v (srt xs).length ((srt xs).map Value.string) := by
  have e1 : ss.length = (srt xs).length := by rw [srt_length]; have := hp.length_eq; rwa [List.length_map] at this
  rw [← e1, ← sort_nm hp, ← map_enc]
  exact h

set_option maxHeartbeats 1000000 in
theorem sorted_of (b : Nat) (m : List (Nm × Value)) (w : World) (h : MapV Value.string w b m) (hm : m.length ≤ 1000000) (hz : ∀ p ∈ m, p.1.size ≤ maxLen) :
    Calls Try.prog 31 #[.map (some b)] w fun e w' => ∃ v, e = .returned v ∧ OwnS w' w.heap.size v (srt (m.map (·.1))) ∧ Ch no w w' := by
  refine (callsIn_wide (n := 6)).1 ?_
  have hown := map_owns (P := Try.prog) Try.underlying30 h hm hz
  have hbl := hown.lt
  have hsz := datum_size m
  have hseq : SeqGives Fence.wide 2 Try.prog 57 #[.pointer (some ⟨w.heap.size, 0, none⟩)] encStr (fun ss => ss.Perm (strKeys (datum m))) (Maps.size (datum m)) (w.alloc (.cells #[.map (some b)] 49)) :=
    AnyZ.keys_gives (ρ := Try.keysM_ren) { Try.keysM with } Fence.wide _ trivial rfl (by omega) w.heap.size b m.length (datum m) _ (by simp) (by simp) (by
      obtain ⟨es, clock, hb, Ft, hs, hD⟩ := hown
      exact ⟨es, clock, (Below.heap_alloc _ _ b hbl).trans hb, Ft, hs, hD⟩)
  have cK : ∀ mb W, CallsIn Fence.wide 5 Try.prog 49 #[.map mb] W fun e w' => e = .returned (.func (.func 57) #[] #[.pointer (some ⟨W.heap.size, 0, none⟩)]) ∧ w' = W.alloc (.cells #[.map mb] 49) := fun mb W => AnyZ.keys_in Try.keysM Fence.wide 5 trivial rfl mb W
  have cS := AnyZ.sorted_in Try.sortedI Fence.wide 5 trivial trivial trivial trivial rfl (by omega) (sortsI _) (enters_of Try.func53 (by kernel_rfl) rfl) 57 #[.pointer (some ⟨w.heap.size, 0, none⟩)] trivial (enters_of Try.func57 (by kernel_rfl) rfl) _ _ (by rw [hsz]; unfold maxLen; omega) (by rw [hsz]; omega) _ hseq
  change CallsIn _ _ Try.prog 36 _ _ _ at cS
  have hfK : Fence.wide.fn 49 := trivial
  have hfS : Fence.wide.fn 36 := trivial
  refine callsIn_of_wp Try.func31 rfl trivial ?_ rfl
  simp only [Try.ntmps31, List.size_toArray, List.length_cons, List.length_nil, Nat.reduceAdd, Nat.reduceSub, Array.replicate_succ, Array.replicate_zero, List.push_toArray, List.append_toArray, List.nil_append, List.cons_append]
  gi_wp2_with (first
    | (gi_at_call 49; refine (cK _ _).mono ?_; rintro e w' ⟨rfl, rfl⟩)
    | (gi_at_call 36; refine cS.mono ?_; rintro e w' ⟨v, ss, rfl, hS, hrow, hnil, hb⟩))
  go_ret
  have hrow2 := row_sorted (hS.trans (datum_keys m)) hrow
  refine ⟨v, rfl, own_less hrow2 (by simp), ?_⟩
  exact ((Ch.refl no w).alloc _).then_ (Ch.of_below hb)
set_option maxHeartbeats 1000000 in
theorem sortedB_of (b : Nat) (m : List (Nm × Value)) (w : World) (h : MapV Value.string w b m) (hm : m.length ≤ 1000000) (hz : ∀ p ∈ m, p.1.size ≤ maxLen) :
    Calls Try.prog 40 #[.map (some b)] w fun e w' => ∃ v, e = .returned v ∧ OwnS w' w.heap.size v (srt (m.map (·.1))) ∧ Ch no w w' := by
  refine (callsIn_wide (n := 6)).1 ?_
  have hown := map_owns (P := Try.prog) Try.underlying30 h hm hz
  have hbl := hown.lt
  have hsz := datum_size m
  have hseq : SeqGives Fence.wide 2 Try.prog 61 #[.pointer (some ⟨w.heap.size, 0, none⟩)] encStr (fun ss => ss.Perm (strKeys (datum m))) (Maps.size (datum m)) (w.alloc (.cells #[.map (some b)] 54)) :=
    AnyZ.keys_gives (ρ := Try.keysB_ren) { Try.keysB with } Fence.wide _ trivial rfl (by omega) w.heap.size b m.length (datum m) _ (by simp) (by simp) (by
      obtain ⟨es, clock, hb, Ft, hs, hD⟩ := hown
      exact ⟨es, clock, (Below.heap_alloc _ _ b hbl).trans hb, Ft, hs, hD⟩)
  have cK : ∀ mb W, CallsIn Fence.wide 5 Try.prog 55 #[.map mb] W fun e w' => e = .returned (.func (.func 61) #[] #[.pointer (some ⟨W.heap.size, 0, none⟩)]) ∧ w' = W.alloc (.cells #[.map mb] 54) := fun mb W => AnyZ.keys_in Try.keysB Fence.wide 5 trivial rfl mb W
  have cS := AnyZ.sorted_in Try.sortedI Fence.wide 5 trivial trivial trivial trivial rfl (by omega) (sortsI _) (enters_of Try.func53 (by kernel_rfl) rfl) 61 #[.pointer (some ⟨w.heap.size, 0, none⟩)] trivial (enters_of Try.func61 (by kernel_rfl) rfl) _ _ (by rw [hsz]; unfold maxLen; omega) (by rw [hsz]; omega) _ hseq
  change CallsIn _ _ Try.prog 36 _ _ _ at cS
  have hfK : Fence.wide.fn 55 := trivial
  have hfS : Fence.wide.fn 36 := trivial
  refine callsIn_of_wp Try.func40 rfl trivial ?_ rfl
  simp only [Try.ntmps40, List.size_toArray, List.length_cons, List.length_nil, Nat.reduceAdd, Nat.reduceSub, Array.replicate_succ, Array.replicate_zero, List.push_toArray, List.append_toArray, List.nil_append, List.cons_append]
  gi_wp2_with (first
    | (gi_at_call 55; refine (cK _ _).mono ?_; rintro e w' ⟨rfl, rfl⟩)
    | (gi_at_call 36; refine cS.mono ?_; rintro e w' ⟨v, ss, rfl, hS, hrow, hnil, hb⟩))
  go_ret
  have hrow2 := row_sorted (hS.trans (datum_keys m)) hrow
  refine ⟨v, rfl, own_less hrow2 (by simp), ?_⟩
  exact ((Ch.refl no w).alloc _).then_ (Ch.of_below hb)
end Go.Proofs.Ytlmcbmgdhpoedaa.Df
