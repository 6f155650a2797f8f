/- Those that are lacked, those on which none stands: what ranges over maps need. -/
import Derived.Maps.RangeWalk
import Derived.Test.YtlmcbmgdhpoedaaDi
namespace Go.Proofs.Ytlmcbmgdhpoedaa.Dj
open Go Go.RowKit Go.Proofs.Ytlmcbmgdhpoedaa.Aa Go.Proofs.Ytlmcbmgdhpoedaa.Vw Go.Proofs.Ytlmcbmgdhpoedaa.Mp Go.Proofs.Ytlmcbmgdhpoedaa.Da Go.Proofs.Ytlmcbmgdhpoedaa.Db Go.Proofs.Ytlmcbmgdhpoedaa.Dc Go.Proofs.Ytlmcbmgdhpoedaa.Df
set_option linter.unusedVariables false
set_option linter.unusedSimpArgs false

theorem mem_datum {m : List (Nm × Value)} {p : Lit × DataW Value} : p ∈ (m.map ent).foldr DataW.insert [] ↔ ∃ e ∈ m, ent e = p := by
  rw [(WideShapes.sorted_perm (m.map ent)).mem_iff, List.mem_map]
theorem datum_at {m : List (Nm × Value)} {x : Nm} {y : DataW Value} (h : ∀ zd, (datum m).atKey (.string x.data.toList) zd = y) : ∃ v, y = .held v ∧ (x, v) ∈ m := by
  unfold datum DataW.atKey at h
  simp only at h
  cases hf : ((m.map ent).foldr DataW.insert []).find? (fun p => p.1.sameKey (.string x.data.toList)) with
  | none =>
    rw [hf] at h
    have h1 := h .nil
    have h2 := h (.lit (.bool true))
    rw [← h1] at h2
    cases h2
  | some p =>
    rw [hf] at h
    obtain ⟨e, he, rfl⟩ := mem_datum.1 (List.mem_of_find?_eq_some hf)
    have hs := List.find?_some hf
    simp only [ent, Lit.sameKey, beq_iff_eq] at hs
    have hx : e.1 = x := ext_list hs
    subst hx
    exact ⟨e.2, (h .nil).symm, he⟩
theorem datum_has {m : List (Nm × Value)} {x : Nm} (h : x ∈ m.map (·.1)) : Maps.has (datum m) (.string x.data.toList) = true := by
  obtain ⟨e, he, rfl⟩ := List.mem_map.1 h
  unfold datum
  rw [Maps.has_eq, List.any_eq_true]
  exact ⟨ent e, mem_datum.2 ⟨e, he, rfl⟩, by simp [ent, Lit.sameKey]⟩
theorem ranges_ch {H : Type} {P : Program} {k : TypeId} {R : Value → Option (DataW H × List MemPlace)} {S : Nat → Prop} {w w' : World} {b r n : Nat} {D : DataW H} {left : Lit → Bool} {cnt : Nat}
    (h : w.ranges P k R b r n D left cnt) (hc : Ch S w w') (hb : ¬ S b) (hr : ¬ S r) : w'.ranges P k R b r n D left cnt := by
  obtain ⟨es, clock, since, seen, c0, h1, h2, h3, h4, h5, h6⟩ := h
  exact ⟨es, clock, since, seen, c0, hc.blk h1 hb, h2, h3, h4, hc.blk h5 hr, h6⟩
/-- Who was to come, and is no longer. -/
def gone (left : Lit → Bool) (x : Nm) : Prop := left (.string x.data.toList) = false
theorem gone_step {left : Lit → Bool} {x y : Nm} (h : gone (fun z => left z && !z.sameKey (.string x.data.toList)) y) : gone left y ∨ y = x := by
  unfold gone at *
  simp only [Bool.and_eq_false_iff, Bool.not_eq_false', Lit.sameKey, beq_iff_eq] at h
  rcases h with h | h
  · exact .inl h
  · exact .inr (ext_list h)
theorem nodup_len {α : Type} [DecidableEq α] : ∀ {l m : List α}, l.Nodup → (∀ x ∈ l, x ∈ m) → l.length ≤ m.length := by
  intro l
  induction l with
  | nil => intro m _ _; simp
  | cons a r ih =>
    intro m hn hs
    rw [List.nodup_cons] at hn
    have ha := hs a (List.mem_cons_self ..)
    have h1 := ih (m := m.erase a) hn.2 (fun x hx => by
      have hne : x ≠ a := fun e => hn.1 (e ▸ hx)
      exact (List.mem_erase_of_ne hne).2 (hs x (List.mem_cons_of_mem _ hx)))
    rw [List.length_erase_of_mem ha] at h1
    have := List.length_pos_of_mem ha
    simp only [List.length_cons]
    omega
theorem srt_of_mem {l m : List Nm} (hl : l.Nodup) (hm : m.Nodup) (h : ∀ x, x ∈ l ↔ x ∈ m) : srt l = srt m := srt_of_perm ((List.perm_ext_iff_of_nodup hl hm).2 h)

/-! Lacks. -/
theorem mem_lackL (d : Gr) (l : List Nm) : ∀ (acc : List Nm) (p : Nm), p ∈ lackL d acc l ↔ (p ∈ acc ∨ (p ∈ l ∧ d.known p = false)) := by
  induction l with
  | nil => intro acc p; simp [lackL]
  | cons q r ih =>
    intro acc p
    unfold lackL
    rw [ih]
    by_cases hk : d.known q = true
    · rw [hk]
      simp only [Bool.true_or, ite_true]
      constructor
      · rintro (h | ⟨h1, h2⟩)
        · exact .inl h
        · exact .inr ⟨List.mem_cons_of_mem _ h1, h2⟩
      · rintro (h | ⟨h1, h2⟩)
        · exact .inl h
        · rcases List.mem_cons.1 h1 with rfl | h1
          · rw [hk] at h2; cases h2
          · exact .inr ⟨h1, h2⟩
    · have hk' : d.known q = false := by simpa using hk
      rw [hk']
      by_cases ha : q ∈ acc
      · simp only [ha, decide_true, Bool.or_true, ite_true]
        constructor
        · rintro (h | ⟨h1, h2⟩)
          · exact .inl h
          · exact .inr ⟨List.mem_cons_of_mem _ h1, h2⟩
        · rintro (h | ⟨h1, h2⟩)
          · exact .inl h
          · rcases List.mem_cons.1 h1 with rfl | h1
            · exact .inl ha
            · exact .inr ⟨h1, h2⟩
      · simp only [ha, decide_false, Bool.or_false, Bool.false_eq_true, ite_false, List.mem_append, List.mem_singleton]
        constructor
        · rintro ((h | rfl) | ⟨h1, h2⟩)
          · exact .inl h
          · exact .inr ⟨List.mem_cons_self .., hk'⟩
          · exact .inr ⟨List.mem_cons_of_mem _ h1, h2⟩
        · rintro (h | ⟨h1, h2⟩)
          · exact .inl (.inl h)
          · rcases List.mem_cons.1 h1 with rfl | h1
            · exact .inl (.inr rfl)
            · exact .inr ⟨h1, h2⟩
theorem nodup_lackL (d : Gr) (l : List Nm) : ∀ (acc : List Nm), acc.Nodup → (lackL d acc l).Nodup := by
  induction l with
  | nil => intro acc h; exact h
  | cons q r ih =>
    intro acc h
    unfold lackL
    split
    · exact ih acc h
    · rename_i hc
      simp only [Bool.or_eq_true, decide_eq_true_eq, not_or] at hc
      refine ih _ (List.nodup_append.2 ⟨h, by simp, ?_⟩)
      intro a ha b hb e
      simp only [List.mem_singleton] at hb
      subst hb
      subst e
      exact hc.2 ha
def LackP (d : Gr) (p : Nm) : Prop := ∃ e ∈ d.waits, p ∈ e.2 ∧ d.known p = false
theorem lacks_eq {d : Gr} {ks : List Nm} (hn : ks.Nodup) (h1 : ∀ p ∈ ks, LackP d p) (h2 : ∀ e ∈ d.waits, ∀ p ∈ e.2, d.known p = false → p ∈ ks) : srt ks = d.lacks := by
  unfold Gr.lacks
  refine srt_of_mem hn (nodup_lackL d _ [] List.nodup_nil) (fun p => ?_)
  rw [mem_lackL]
  constructor
  · intro hp
    obtain ⟨e, he, hpe, hk⟩ := h1 p hp
    exact .inr ⟨List.mem_flatMap.2 ⟨e, he, hpe⟩, hk⟩
  · rintro (h | ⟨h, hk⟩)
    · simp at h
    · obtain ⟨e, he, hpe⟩ := List.mem_flatMap.1 h
      exact h2 e he p hpe hk
theorem lack_len {d : Gr} {n : Nat} (hf : Fine d n) (hn : n ≤ 1000) {ks : List Nm} (hnd : ks.Nodup) (h1 : ∀ p ∈ ks, LackP d p) : ks.length ≤ 1000000 ∧ ∀ p ∈ ks, p.size ≤ 1000 := by
  constructor
  · have h2 := nodup_len (m := d.waits.flatMap (·.2)) hnd (fun p hp => by
      obtain ⟨e, he, hpe, _⟩ := h1 p hp
      exact List.mem_flatMap.2 ⟨e, he, hpe⟩)
    have h3 : ∀ l : List (Nm × List Nm), (∀ e ∈ l, e.2.length ≤ 1000) → (l.flatMap (·.2)).length ≤ l.length * 1000 := by
      intro l
      induction l with
      | nil => intro _; simp
      | cons e r ih =>
        intro h
        rw [List.flatMap_cons, List.length_append, List.length_cons]
        have := ih (fun e he => h e (List.mem_cons_of_mem _ he))
        have := h e (List.mem_cons_self ..)
        omega
    have h4 := h3 d.waits hf.wpl
    have := hf.many
    omega
  · intro p hp
    obtain ⟨e, he, hpe, _⟩ := h1 p hp
    exact hf.wpz e he p hpe

/-! Heads. -/
def BelowP (d : Gr) (p : Nm) : Prop := ∃ e ∈ d.ins, p ∈ e.2.1
theorem heads_eq {d : Gr} (hd : d.ids.Nodup) {ks : List Nm} (hn : ks.Nodup) (h1 : ∀ p ∈ ks, p ∈ d.ids) (h2 : ∀ p ∈ d.ids, p ∉ ks → BelowP d p) (h3 : ∀ e ∈ d.ins, ∀ p ∈ e.2.1, p ∉ ks) : srt ks = d.heads := by
  unfold Gr.heads
  refine srt_of_mem hn (hd.filter _) (fun p => ?_)
  rw [List.mem_filter]
  constructor
  · intro hp
    refine ⟨h1 p hp, ?_⟩
    rw [Bool.not_eq_true', List.any_eq_false]
    intro e he
    simp only [decide_eq_true_eq]
    exact fun hpe => h3 e he p hpe hp
  · rintro ⟨hi, ha⟩
    rw [Bool.not_eq_true', List.any_eq_false] at ha
    apply Classical.byContradiction
    intro hk
    obtain ⟨e, he, hpe⟩ := h2 p hi hk
    exact ha e he (by simpa using hpe)
end Go.Proofs.Ytlmcbmgdhpoedaa.Dj
