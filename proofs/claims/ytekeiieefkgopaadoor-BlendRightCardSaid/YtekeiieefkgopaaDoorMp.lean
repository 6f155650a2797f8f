/- Maps by keys of one kind: what they hold, entry by entry; the operations. -/
import Derived.WalkKit
import Derived.MapKept
import Derived.ChangeMaps4
import Derived.Test.YtekeiieefkgopaaDoorAa
namespace Go.Proofs.YtekeiieefkgopaaDoor.Mp
set_option linter.unusedSectionVars false
set_option linter.unusedSimpArgs false
open Go Go.RowKit Go.Proofs.YtekeiieefkgopaaDoor.Aa Go.MapKept

/-- A kind of keys. -/
structure KeyLaw {κ : Type} (d : TypeDesc) (enc : κ → Value) : Prop where
  key : ∀ x, IsKey d (enc x)
  inj : ∀ x y, enc x = enc y → x = y
theorem strKey : KeyLaw .string Value.string := ⟨fun _ => trivial, fun x y h => by cases h; rfl⟩
theorem intKey : KeyLaw (.int .i64) (Value.int .i64) := ⟨fun _ => rfl, fun x y h => by cases h; rfl⟩

section
variable {κ : Type} [DecidableEq κ]
/-- What a map tells of a key. -/
def mget (m : List (κ × Value)) (k : κ) : Option Value := (m.find? (fun p => decide (p.1 = k))).map (·.2)
def mput (m : List (κ × Value)) (k : κ) (v : Value) : List (κ × Value) := if (mget m k).isSome then m.map (fun p => if p.1 = k then (k, v) else p) else m ++ [(k, v)]
def mdel (m : List (κ × Value)) (k : κ) : List (κ × Value) := m.filter (fun p => decide (p.1 ≠ k))

theorem mget_none {m : List (κ × Value)} {k : κ} : mget m k = none ↔ ∀ p ∈ m, p.1 ≠ k := by
  unfold mget; simp
theorem mget_cons (p : κ × Value) (m : List (κ × Value)) (k : κ) : mget (p :: m) k = if p.1 = k then some p.2 else mget m k := by
  unfold mget
  rw [List.find?_cons]
  by_cases h : p.1 = k <;> simp [h]
theorem mget_append (m m' : List (κ × Value)) (k : κ) : mget (m ++ m') k = (mget m k).or (mget m' k) := by
  induction m with
  | nil => simp [mget]
  | cons p r ih => rw [List.cons_append, mget_cons, mget_cons, ih]; split <;> simp
theorem mget_some_mem {m : List (κ × Value)} {k : κ} {v : Value} (h : mget m k = some v) : (k, v) ∈ m := by
  induction m with
  | nil => simp [mget] at h
  | cons p r ih =>
    rw [mget_cons] at h
    split at h
    · rename_i e
      have : p.2 = v := Option.some.inj h
      rw [← e, ← this]; exact List.mem_cons_self ..
    · exact List.mem_cons_of_mem _ (ih h)
/-- Keys that are unlike: an entry is what its key tells. -/
def Unlike (m : List (κ × Value)) : Prop := (m.map (·.1)).Nodup
theorem mget_of_mem {m : List (κ × Value)} (hu : Unlike m) {k : κ} {v : Value} (h : (k, v) ∈ m) : mget m k = some v := by
  induction m with
  | nil => simp at h
  | cons p r ih =>
    rw [mget_cons]
    unfold Unlike at hu
    rw [List.map_cons, List.nodup_cons] at hu
    rcases List.mem_cons.1 h with rfl | h'
    · simp
    · rw [if_neg]
      · exact ih hu.2 h'
      · intro e
        exact hu.1 (List.mem_map.2 ⟨(k, v), h', e.symm⟩)
theorem mget_map_put (m : List (κ × Value)) (k k' : κ) (v : Value) : mget (m.map (fun p => if p.1 = k then (k, v) else p)) k' = if k' = k then (mget m k).map (fun _ => v) else mget m k' := by
  induction m with
  | nil => simp [mget]
  | cons p r ih =>
    rw [List.map_cons, mget_cons, mget_cons, mget_cons, ih]
    by_cases h1 : p.1 = k
    · by_cases h2 : k' = k
      · subst h2; simp [h1]
      · have h3 : ¬ k = k' := fun e => h2 e.symm
        have h4 : ¬ p.1 = k' := fun e => h2 (e.symm.trans h1)
        simp [h1, h2, h3, h4]
    · by_cases h2 : k' = k
      · subst h2; simp [h1]
      · simp [h1, h2]
theorem mget_put (m : List (κ × Value)) (k k' : κ) (v : Value) : mget (mput m k v) k' = if k' = k then some v else mget m k' := by
  unfold mput
  split
  · rename_i h
    rw [mget_map_put]
    obtain ⟨u, hu⟩ := Option.isSome_iff_exists.1 h
    rw [hu]; rfl
  · rename_i h
    have hn : mget m k = none := by simpa using h
    rw [mget_append, mget_cons]
    by_cases h2 : k' = k
    · subst h2; rw [hn]; simp
    · have h3 : ¬ k = k' := fun e => h2 e.symm
      simp [h2, h3, mget]
theorem mget_del (m : List (κ × Value)) (k k' : κ) : mget (mdel m k) k' = if k' = k then none else mget m k' := by
  induction m with
  | nil => simp [mget, mdel]
  | cons p r ih =>
    unfold mdel at *
    rw [List.filter_cons]
    by_cases h1 : p.1 = k
    · simp only [h1, ne_eq, not_true_eq_false, decide_false, Bool.false_eq_true, if_false]
      rw [ih, mget_cons]
      by_cases h2 : k' = k
      · simp [h2]
      · have : ¬ p.1 = k' := fun e => h2 (e.symm.trans h1)
        simp [h2, this]
    · simp only [h1, ne_eq, not_false_eq_true, decide_true, if_true]
      rw [mget_cons, mget_cons, ih]
      by_cases h2 : k' = k
      · subst h2; simp [h1]
      · simp [h2]
theorem unlike_put {m : List (κ × Value)} (hu : Unlike m) (k : κ) (v : Value) : Unlike (mput m k v) := by
  unfold mput
  split
  · unfold Unlike at *
    rw [List.map_map]
    have e : ((fun x : κ × Value => x.1) ∘ fun p => if p.1 = k then (k, v) else p) = (·.1) := by
      funext p; simp only [Function.comp]; split <;> simp_all
    rw [e]; exact hu
  · rename_i h
    have hn : mget m k = none := by simpa using h
    unfold Unlike at *
    rw [List.map_append, List.nodup_append]
    refine ⟨hu, by simp, ?_⟩
    intro a ha b hb
    obtain ⟨p, hp, rfl⟩ := List.mem_map.1 ha
    have eb : b = k := by simpa using hb
    subst eb
    exact mget_none.1 hn p hp
theorem unlike_del {m : List (κ × Value)} (hu : Unlike m) (k : κ) : Unlike (mdel m k) :=
  List.Nodup.sublist (List.Sublist.map _ List.filter_sublist) hu

theorem del_at {m : List (κ × Value)} (hu : Unlike m) {j : Nat} {k : κ} {v : Value} (h : m[j]? = some (k, v)) : m.eraseIdx j = mdel m k := by
  induction m generalizing j with
  | nil => simp at h
  | cons p r ih =>
    unfold Unlike at hu
    rw [List.map_cons, List.nodup_cons] at hu
    unfold mdel
    rw [List.filter_cons]
    cases j with
    | zero =>
      have e : p = (k, v) := by simpa using h
      subst e
      simp only [List.eraseIdx_cons_zero, ne_eq, not_true_eq_false, decide_false, Bool.false_eq_true, if_false]
      symm
      rw [List.filter_eq_self]
      intro q hq
      simp only [ne_eq, decide_not, Bool.not_eq_true', decide_eq_false_iff_not]
      intro e
      exact hu.1 (List.mem_map.2 ⟨q, hq, e⟩)
    | succ j =>
      have hr : r[j]? = some (k, v) := by simpa using h
      have hne : p.1 ≠ k := fun e => hu.1 (List.mem_map.2 ⟨(k, v), List.mem_of_getElem? hr, e.symm⟩)
      have := ih hu.2 hr
      unfold mdel at this
      simp only [List.eraseIdx_cons_succ, ne_eq, hne, not_false_eq_true, decide_true, if_true, this]

/-- A map's block, and what it holds. -/
structure MapV (enc : κ → Value) (w : World) (b : Nat) (m : List (κ × Value)) : Prop where
  blk : ∃ (es : Array MapEntry) (clock : Nat), w.heap[b]? = some (.map es clock) ∧ Stamped es clock ∧ es.toList.map (fun e => (e.key, e.val)) = m.map (fun p => (enc p.1, p.2))
  unlike : Unlike m
variable {enc : κ → Value} {w w' : World} {b : Nat} {m : List (κ × Value)}
theorem MapV.ch {S : Nat → Prop} (h : MapV enc w b m) (hc : Ch S w w') (hs : ¬ S b) : MapV enc w' b m := by
  obtain ⟨⟨es, clock, hb, h1, h2⟩, hu⟩ := h
  exact ⟨⟨es, clock, hc.blk hb hs, h1, h2⟩, hu⟩
theorem MapV.lt (h : MapV enc w b m) : b < w.heap.size := by
  obtain ⟨⟨es, clock, hb, _⟩, _⟩ := h
  exact blk_lt' hb
theorem MapV.new (w : World) : MapV enc (w.alloc (.map #[] 0)) w.heap.size [] :=
  ⟨⟨#[], 0, bNew _ _, by simp [Stamped], by simp⟩, by simp [Unlike]⟩

/-- Where a key stands. -/
theorem find_spec {d : TypeDesc} (K : KeyLaw d enc) {l : List MapEntry} {m : List (κ × Value)} (he : l.map (fun e => (e.key, e.val)) = m.map (fun p => (enc p.1, p.2))) (k : κ) :
    (Instr.findNow d (enc k) l 0 = some none ∧ mget m k = none ∧ ∀ x ∈ l, x.key ≠ enc k) ∨
    ∃ j e, Instr.findNow d (enc k) l 0 = some (some (j, e.val)) ∧ l[j]? = some e ∧ e.key = enc k := by
  have hkeys : ∀ x ∈ l, IsKey d x.key := by
    intro x hx
    have : (x.key, x.val) ∈ m.map (fun p => (enc p.1, p.2)) := by rw [← he]; exact List.mem_map.2 ⟨x, hx, rfl⟩
    obtain ⟨p, _, hp⟩ := List.mem_map.1 this
    have : enc p.1 = x.key := (Prod.mk.inj hp).1
    rw [← this]; exact K.key _
  rcases findNow_spec (K.key k) l 0 hkeys with ⟨h1, h2⟩ | ⟨j, e, h1, h2, h3⟩
  · refine .inl ⟨h1, ?_, h2⟩
    rw [mget_none]
    intro p hp e
    have : (enc p.1, p.2) ∈ l.map (fun e => (e.key, e.val)) := by rw [he]; exact List.mem_map.2 ⟨p, hp, rfl⟩
    obtain ⟨x, hx, hxe⟩ := List.mem_map.1 this
    exact h2 x hx (by have := (Prod.mk.inj hxe).1; rw [this, e])
  · exact .inr ⟨j, e, by simpa using h1, h2, h3⟩
theorem found_get {d : TypeDesc} (K : KeyLaw d enc) {l : List MapEntry} {m : List (κ × Value)} (hu : Unlike m) (he : l.map (fun e => (e.key, e.val)) = m.map (fun p => (enc p.1, p.2))) {k : κ} {j : Nat} {e : MapEntry} (hj : l[j]? = some e) (hk : e.key = enc k) :
    m[j]? = some (k, e.val) ∧ mget m k = some e.val := by
  have h1 : (l.map (fun e => (e.key, e.val)))[j]? = some (e.key, e.val) := by rw [List.getElem?_map, hj]; rfl
  rw [he, List.getElem?_map] at h1
  cases hm : m[j]? with
  | none => rw [hm] at h1; simp at h1
  | some p =>
    rw [hm] at h1
    have h2 := Prod.mk.inj (Option.some.inj h1)
    have h3 : p.1 = k := K.inj _ _ (h2.1.trans hk)
    have h4 : p = (k, e.val) := Prod.ext h3 h2.2
    subst h4
    exact ⟨rfl, mget_of_mem hu (List.mem_of_getElem? hm)⟩

variable {P : Program} {d : TypeDesc} {t kt et : TypeId}
theorem run_get (K : KeyLaw d enc) (ht : P.underlying t = some (.map kt et)) (hk : P.underlying kt = some d) (h : MapV enc w b m) (k : κ) (ok : Bool) {z : Value} (hz : (zeroValue et).run P w = .ok z w) :
    (Instr.lookup t (.map (some b)) (enc k) ok).run P w = .ok (if ok then .tuple #[(mget m k).getD z, .bool (mget m k).isSome] else (mget m k).getD z) w := by
  obtain ⟨⟨es, clock, hb, hst, he⟩, hu⟩ := h
  rcases find_spec K he k with ⟨h1, h2, _⟩ | ⟨j, e, h1, h2, h3⟩
  · simp [Instr.lookup, run_underlying ht, MapKept.run_getObj_map hb, MapKept.run_checkKey hk (K.key k), MapKept.run_findKey hk h1, Result.andThen, hz, h2]
  · have := (found_get K hu he h2 h3).2
    simp [Instr.lookup, run_underlying ht, MapKept.run_getObj_map hb, MapKept.run_checkKey hk (K.key k), MapKept.run_findKey hk h1, Result.andThen, this]
theorem run_get_nil (K : KeyLaw d enc) (ht : P.underlying t = some (.map kt et)) (hk : P.underlying kt = some d) (k : κ) (ok : Bool) {z : Value} (hz : (zeroValue et).run P w = .ok z w) :
    (Instr.lookup t (.map none) (enc k) ok).run P w = .ok (if ok then .tuple #[z, .bool false] else z) w := by
  have h1 : Instr.findNow d (enc k) [] 0 = some none := rfl
  simp [Instr.lookup, run_underlying ht, MapKept.run_checkKey hk (K.key k), MapKept.run_findKey hk h1, Result.andThen, hz]
theorem run_put (K : KeyLaw d enc) (ht : P.underlying t = some (.map kt et)) (hk : P.underlying kt = some d) (h : MapV enc w b m) (k : κ) (v : Value) :
    ∃ w', (Instr.mapUpdate t (.map (some b)) (enc k) v).run P w = .ok () w' ∧ MapV enc w' b (mput m k v) ∧ Ch (one b) w w' := by
  obtain ⟨⟨es, clock, hb, hst, he⟩, hu⟩ := h
  have hch : ∀ o : Obj, Ch (one b) w { w with heap := w.heap.setIfInBounds b o } := fun o =>
    ⟨rfl, rfl, rfl, by simp, fun i hi hn => (heap_set hb).2 i (fun e => hn e)⟩
  rcases find_spec K he k with ⟨h1, h2, h3⟩ | ⟨j, e, h1, h2, h3⟩
  · refine ⟨_, by simp [Instr.mapUpdate, run_underlying ht, MapKept.run_getObj_map hb, MapKept.run_checkKey hk (K.key k), MapKept.run_findKey hk h1, MapKept.run_setObj_map _ hb, Result.andThen]; rfl, ⟨⟨_, _, (heap_set hb).1, ?_, ?_⟩, unlike_put hu k v⟩, hch _⟩
    · exact stamped_push hst h3
    · unfold mput
      rw [h2]
      simp [he]
  · obtain ⟨hm, hg⟩ := found_get K hu he h2 h3
    have hes : es[j]? = some e := by rw [Array.getElem?_toList] at h2; exact h2
    refine ⟨_, by simp [Instr.mapUpdate, run_underlying ht, MapKept.run_getObj_map hb, MapKept.run_checkKey hk (K.key k), MapKept.run_findKey hk h1, hes, h3, MapKept.run_keyThatStays (K.key k), MapKept.run_setObj_map _ hb, Result.andThen]; rfl, ⟨⟨_, _, (heap_set hb).1, ?_, ?_⟩, unlike_put hu k v⟩, hch _⟩
    · exact stamped_modify hst j _ (fun _ _ => rfl) (fun e' _ he' => by rw [hes] at he'; cases he'; exact h3.symm)
    · unfold mput
      rw [hg]
      simp only [Option.isSome_some, if_true]
      apply List.ext_getElem?
      intro i
      have hi : (es.toList.map (fun e => (e.key, e.val)))[i]? = (m.map (fun p => (enc p.1, p.2)))[i]? := by rw [he]
      rw [List.getElem?_map, List.getElem?_map, Array.getElem?_toList] at hi
      rw [List.getElem?_map, List.getElem?_map, List.getElem?_map, Array.getElem?_toList, Array.getElem?_modify]
      by_cases hij : j = i
      · subst hij
        rw [if_pos rfl, hes, hm]
        simp [h3]
      · rw [if_neg hij]
        cases hmi : m[i]? with
        | none =>
          rw [hmi] at hi
          cases hei : es[i]? with
          | none => rfl
          | some x => rw [hei] at hi; simp at hi
        | some p =>
          rw [hmi] at hi
          have hne : p.1 ≠ k := by
            intro hpk
            have h4 : (m.map (·.1))[i]? = (m.map (·.1))[j]? := by
              rw [List.getElem?_map, List.getElem?_map, hmi, hm]; simp [hpk]
            have hlt : i < (m.map (·.1)).length := by
              rw [List.length_map]; exact (List.getElem?_eq_some_iff.1 hmi).1
            have := (List.getElem?_inj hlt hu).1 h4
            omega
          cases hei : es[i]? with
          | none => rw [hei] at hi; simp at hi
          | some x =>
            rw [hei] at hi
            simpa [hne] using hi

theorem run_del (K : KeyLaw d enc) (ht : P.underlying t = some (.map kt et)) (hk : P.underlying kt = some d) (h : MapV enc w b m) (k : κ) (kt' ty : TypeId) :
    ∃ w', (Builtin.delete_ #[t, kt'] ty #[.map (some b), enc k]).run P w = .ok (.tuple #[]) w' ∧ MapV enc w' b (mdel m k) ∧ Ch (one b) w w' := by
  obtain ⟨⟨es, clock, hb, hst, he⟩, hu⟩ := h
  have hch : ∀ o : Obj, Ch (one b) w { w with heap := w.heap.setIfInBounds b o } := fun o =>
    ⟨rfl, rfl, rfl, by simp, fun i hi hn => (heap_set hb).2 i (fun e => hn e)⟩
  rcases find_spec K he k with ⟨h1, h2, h3⟩ | ⟨j, e, h1, h2, h3⟩
  · refine ⟨_, by simp [Builtin.delete_, run_underlying ht, MapKept.run_getObj_map hb, MapKept.run_checkKey hk (K.key k), MapKept.run_findKey hk h1, MapKept.run_setObj_map _ hb, Result.andThen], ⟨⟨_, _, (heap_set hb).1, hst, ?_⟩, unlike_del hu k⟩, hch _⟩
    rw [he]
    have : mdel m k = m := by
      unfold mdel
      rw [List.filter_eq_self]
      intro p hp
      simpa using mget_none.1 h2 p hp
    rw [this]
  · obtain ⟨hm, hg⟩ := found_get K hu he h2 h3
    have hes : es[j]? = some e := by rw [Array.getElem?_toList] at h2; exact h2
    refine ⟨_, by simp [Builtin.delete_, run_underlying ht, MapKept.run_getObj_map hb, MapKept.run_checkKey hk (K.key k), MapKept.run_findKey hk h1, MapKept.run_setObj_map _ hb, Result.andThen], ⟨⟨_, _, (heap_set hb).1, stamped_erase hst j, ?_⟩, unlike_del hu k⟩, hch _⟩
    rw [← del_at hu hm]
    have hjl : j < es.size := (Array.getElem?_eq_some_iff.1 hes).1
    have hee : (es.eraseIdxIfInBounds j).toList = es.toList.eraseIdx j := by
      unfold Array.eraseIdxIfInBounds
      rw [dif_pos hjl, Array.toList_eraseIdx]
    rw [hee]
    rw [ChangeMaps.map_eraseIdx, he, ChangeMaps.map_eraseIdx]

end
section
variable {κ : Type} [DecidableEq κ] {enc : κ → Value} {P : Program} {d : TypeDesc} {t kt et : TypeId} {w : World} {b : Nat} {m : List (κ × Value)}
/-- m[k] = v at the operation; in a map's literal, too. -/
theorem wpList_put {ops : Array Oper} {rest : List Oper} {o : Oper} {a : Act} {Q : Exit → Act → World → Prop} (hgd : o.guard = none) (mo x v : Operand)
    (hop : o.op = Op.mapUpdate t mo x v ∨ o.op = Op.insert t mo x v) (K : KeyLaw d enc) (ht : P.underlying t = some (.map kt et)) (hk : P.underlying kt = some d)
    (hm : a.eval mo = .map (some b)) (hmap : MapV enc w b m) (k : κ) (hx : a.eval x = enc k) (val : Value) (hv : a.eval v = val)
    (hK : ∀ w', MapV enc w' b (mput m k val) → Ch (one b) w w' → wpList P ops Q rest (a.put o.dst undef) w') : wpList P ops Q (o :: rest) a w := by
  obtain ⟨w', hrun, h1, h2⟩ := run_put K ht hk hmap k val
  refine wpList_plain hgd fun K' hK' => ?_
  unfold Oper.wp
  rcases hop with hop | hop <;> simp [execOp, hop, hm, hx, hv, hrun, Result.andThen] <;> exact hK' _ _ (hK w' h1 h2)
end
end Go.Proofs.YtekeiieefkgopaaDoor.Mp
