/- A region that draws its order, one of whose operations fills a block that another one has made: what is known of a value may look at the values of those that it waits for. -/
import Derived.Test.YtekeiieefkgopaaDoorMt
namespace Go.Proofs.YtekeiieefkgopaaDoor.Mu
open Go Go.Proofs.YtekeiieefkgopaaDoor.Aa Go.Proofs.YtekeiieefkgopaaDoor.Mr

section
variable {P : Program} {ops : Array Oper} {G : (Nat → Value) → Nat → World → Prop}

def put (vs : Nat → Value) (i : Nat) (v : Value) : Nat → Value := fun j => if j = i then v else vs j
/-- What is asked of an operation's end: nothing that was there has turned, or what is known of the others stays known. -/
def Gr (G : (Nat → Value) → Nat → World → Prop) (w : World) (vs : Nat → Value) (W : World) (i : Nat) (v : Value) (W' : World) : Prop :=
  (Ch no W W' ∨ (Ch no w W' ∧ ∀ j, j ≠ i → G vs j W → G vs j W')) ∧ G (put vs i v) i W'
def Obl (P : Program) (ops : Array Oper) (G : (Nat → Value) → Nat → World → Prop) (a : Act) (w : World) (i : Nat) (o : Oper) : Prop :=
  ∀ (vs : Nat → Value) (W : World), Ch no w W → (∀ e ∈ o.after.toList, Region.binds .any e = true → G vs e.on W) →
    wpList P ops (Mr.Ends (fun _ _ => True) (Gr G w vs W) a.defers i o W) [o] { a with tmps := fill ops.toList 0 vs a.tmps } W
def Obls (P : Program) (ops : Array Oper) (G : (Nat → Value) → Nat → World → Prop) (a : Act) (w : World) : Nat → List Oper → Prop
  | _, [] => True
  | i, o :: r => Obl P ops G a w i o ∧ Obls P ops G a w (i + 1) r
theorem Obls.get {a : Act} {w : World} (l : List Oper) : ∀ (k i : Nat) (o : Oper), Obls P ops G a w k l → l[i]? = some o → Obl P ops G a w (k + i) o := by
  induction l with
  | nil => intro k i o _ h; simp at h
  | cons x r ih =>
    intro k i o h hi
    cases i with
    | zero => have e : x = o := by simpa using hi
              subst e; exact h.1
    | succ i => have := ih (k + 1) i o h.2 (by simpa using hi)
                rwa [show k + 1 + i = k + (i + 1) from by omega] at this
theorem all_ch {S : Nat → Prop} {W W' : World} (h : Ch S W W') : Ch (fun _ => True) W W' := h.mono (fun _ _ => trivial)
abbrev Anyw : Nat → Value → World → Prop := fun _ _ _ => True

/-- What is known between two operations. -/
structure MidR (ops : Array Oper) (G : (Nat → Value) → Nat → World → Prop) (a : Act) (w : World) (listed : Array Bool) (vs : Nat → Value) (a' : Act) (W : World) : Prop where
  defers : a'.defers = a.defers
  size : a'.tmps.size = a.tmps.size
  mine : ∀ i o d, ops[i]? = some o → o.dst = some d → listed.getD i false = true → a'.tmps[d]? = some (vs i)
  rest : ∀ t, (∀ i o, ops[i]? = some o → o.dst = some t → listed.getD i false = false) → a'.tmps[t]? = a.tmps[t]?
  goods : ∀ i o, ops[i]? = some o → listed.getD i false = true → G vs i W
  closed : ∀ j o, ops[j]? = some o → listed.getD j false = true → ∀ e ∈ o.after, Region.binds .any e = true → listed.getD e.on false = true
  ch : Ch no w W
theorem MidR.mid {a a' : Act} {w W : World} {listed : Array Bool} {vs : Nat → Value} (h : MidR ops G a w listed vs a' W) : Mid (fun _ => no) ops Anyw a w listed vs a' W :=
  ⟨h.defers, h.size, h.mine, h.rest, fun _ _ _ _ => trivial, h.closed, h.ch.mono (fun _ hk => hk.elim), fun _ => h.ch⟩

theorem region_rel {Q : Exit → Act → World → Prop} {a : Act} {w : World} (hok : regOk ops a.tmps.size = true)
    (hst : ∀ vs i W W', G vs i W → Ch no W W' → G vs i W') (hdep : ∀ vs vs' i W, vs i = vs' i → (∀ o, ops[i]? = some o → ∀ e ∈ o.after, Region.binds .any e = true → vs e.on = vs' e.on) → G vs i W → G vs' i W) (hobl : Obls P ops G a w 0 ops.toList)
    (hfin : ∀ (vs : Nat → Value) (W : World), Ch no w W → (∀ i, i < ops.size → G vs i W) → Q .normal { a with tmps := fill ops.toList 0 vs a.tmps } W) :
    ∀ (fuel : Nat) (listed : Array Bool) (vs : Nat → Value) (a' : Act) (W : World), listed.size = ops.size → MidR ops G a w listed vs a' W →
      ((List.range ops.size).filter fun i => !listed.getD i false).length ≤ fuel → wpAny P .any ops Q fuel listed a' W := by
  have key : ∀ (listed : Array Bool) (vs : Nat → Value) (a' : Act) (W : World), listed.size = ops.size → MidR ops G a w listed vs a' W → Region.ready .any ops listed = [] → Q .normal a' W := by
    intro listed vs a' W hsz hm hr
    have hall : ∀ n i, i < n → i < ops.size → listed.getD i false = true := by
      intro n
      induction n with
      | zero => intro i h; omega
      | succ n ih =>
        intro i h hi
        cases hl : listed.getD i false with
        | true => rfl
        | false =>
          exfalso
          have ho : ops[i]? = some ops[i] := Array.getElem?_eq_getElem hi
          have : i ∈ Region.ready .any ops listed := mem_ready.2 ⟨by
            rw [Array.getD_eq_getD_getElem?] at hl ⊢
            rw [Array.getElem?_eq_getElem (by omega)] at hl ⊢
            simpa using hl, _, ho, fun e he hb => ih e.on (by have := ok_after _ hok ho e he hb; omega) (by have := ok_after _ hok ho e he hb; omega)⟩
          rw [hr] at this
          simp at this
    rw [hm.mid.done hok (fun i hi => hall (i + 1) i (by omega) hi)]
    exact hfin vs W hm.ch (fun i hi => hm.goods i _ (Array.getElem?_eq_getElem hi) (hall (i + 1) i (by omega) hi))
  intro fuel
  induction fuel with
  | zero =>
    intro listed vs a' W hsz hm hc
    have hr : Region.ready .any ops listed = [] := by
      rw [List.eq_nil_iff_forall_not_mem]
      intro i hi
      obtain ⟨h0, o, ho, _⟩ := mem_ready.1 hi
      have hlt := (Array.getElem?_eq_some_iff.1 ho).1
      have : i ∈ (List.range ops.size).filter fun i => !listed.getD i false := List.mem_filter.2 ⟨List.mem_range.2 hlt, by
        rw [Array.getD_eq_getD_getElem?] at h0 ⊢
        rw [Array.getElem?_eq_getElem (by omega)] at h0 ⊢
        simpa using h0⟩
      rw [List.length_eq_zero_iff.1 (Nat.le_zero.1 hc)] at this
      simp at this
    exact ⟨hr, key _ _ _ _ hsz hm hr⟩
  | succ fuel ih =>
    intro listed vs a' W hsz hm hc
    refine ⟨key _ _ _ _ hsz hm, fun i hi => ?_⟩
    obtain ⟨h0, o, ho, hr⟩ := mem_ready.1 hi
    have hlt := (Array.getElem?_eq_some_iff.1 ho).1
    have hf : listed.getD i false = false := by
      rw [Array.getD_eq_getD_getElem?] at h0 ⊢
      rw [Array.getElem?_eq_getElem (by omega)] at h0 ⊢
      simpa using h0
    have hob := Obls.get ops.toList 0 i o hobl (by rw [Array.getElem?_toList]; exact ho)
    rw [Nat.zero_add] at hob
    have hagree := fun t ht => hm.mid.agree (t := t) hok ho hr ht
    refine wpOp_moved (T := fun _ _ => True) (G := Gr G w vs W) (a := { a with tmps := fill ops.toList 0 vs a.tmps }) ho (ok_sel _ hok ho) ?_ ?_ ?_ (hob vs W hm.ch ?_) ?_
    · intro x hx
      cases x with
      | tmp t =>
        have := hagree t (List.mem_append_left _ (List.mem_filterMap.2 ⟨.tmp t, by simpa using hx, rfl⟩))
        simp only [Act.eval, Array.getD_eq_getD_getElem?, this]
      | const v => rfl
      | global g => rfl
      | func f => rfl
    · unfold Region.wanted
      cases hg : o.guard with
      | none => rfl
      | some gw =>
        obtain ⟨g, want⟩ := gw
        have hy : yielded ops (fill ops.toList 0 vs a.tmps) g = yielded ops a'.tmps g := by
          unfold yielded
          cases ht : (ops[g]?).bind (·.dst) with
          | none => rfl
          | some t =>
            have := hagree t (by simp [Oper.looksAt, hg, ht])
            simp only [Option.bind_some, this]
        simp only [hy]
    · intro d hd
      show d < (fill ops.toList 0 vs a.tmps).size
      rw [fill_size]
      exact (ok_dst _ hok ho hd).1
    · intro e he hb
      have hl := hr e (by simpa using he) hb
      have hlt2 := ok_after _ hok ho e (by simpa using he) hb
      exact hm.goods e.on _ (Array.getElem?_eq_getElem (by omega)) hl
    · intro v W' hc' hG
      obtain ⟨hG1, hG2⟩ := hG
      refine ih (listed.setIfInBounds i true) (put vs i (match o.dst with | some _ => v | none => undef)) _ W' (by simpa using hsz) ?_ ?_
      · have hsz' : (a'.put o.dst v).tmps.size = a'.tmps.size := by unfold Act.put; cases o.dst <;> simp
        have hput : ∀ t, o.dst ≠ some t → (a'.put o.dst v).tmps[t]? = a'.tmps[t]? := by
          intro t ht
          unfold Act.put
          cases hd : o.dst with
          | none => rfl
          | some d => simp only []; rw [Array.getElem?_setIfInBounds_ne]; intro e; exact ht (by rw [hd, e])
        refine ⟨?_, ?_, ?_, ?_, ?_, ?_, ?_⟩
        · rw [← hm.defers]; unfold Act.put; cases o.dst <;> rfl
        · rw [hsz', hm.size]
        · intro j o' d hj hd hl
          rw [getD_set _ _ _ (by omega)] at hl
          by_cases hji : j = i
          · subst hji
            have : o' = o := by rw [ho] at hj; exact (Option.some.inj hj).symm
            subst this
            have hdlt := (ok_dst _ hok ho hd).1
            unfold Act.put put
            simp only [hd, if_true]
            rw [Array.getElem?_setIfInBounds_self_of_lt]
            rw [hm.size]; exact hdlt
          · rw [if_neg hji] at hl
            unfold put
            rw [if_neg hji]
            rw [hput d (fun he => hji ((ok_dst _ hok ho he).2 j o' hj hd))]
            exact hm.mine j o' d hj hd hl
        · intro t ht
          by_cases hti : o.dst = some t
          · have := ht i o ho hti
            rw [getD_set _ _ _ (by omega), if_pos rfl] at this
            simp at this
          · rw [hput t hti]
            refine hm.rest t (fun j o' hj hd => ?_)
            have := ht j o' hj hd
            rw [getD_set _ _ _ (by omega)] at this
            by_cases hji : j = i
            · subst hji; rw [if_pos rfl] at this; simp at this
            · rwa [if_neg hji] at this
        · intro j o' hj hl
          rw [getD_set _ _ _ (by omega)] at hl
          by_cases hji : j = i
          · subst hji
            exact hG2
          · rw [if_neg hji] at hl
            have h1 : G vs j W' := by
              rcases hG1 with h | ⟨_, h⟩
              · exact hst _ _ _ _ (hm.goods j o' hj hl) h
              · exact h j hji (hm.goods j o' hj hl)
            refine hdep _ _ _ _ ?_ ?_ h1
            · unfold put; rw [if_neg hji]
            · intro o2 ho2 e he hb
              have hq := hm.closed j o2 ho2 hl e he hb
              unfold put
              rw [if_neg]
              intro hei
              rw [hei, hf] at hq
              cases hq
        · intro j o' hj hl e he hb
          rw [getD_set _ _ _ (by omega)] at hl ⊢
          by_cases hej : e.on = i
          · rw [if_pos hej]
          · rw [if_neg hej]
            by_cases hji : j = i
            · subst hji
              have : o' = o := by rw [ho] at hj; exact (Option.some.inj hj).symm
              subst this
              exact hr e (by simpa using he) hb
            · rw [if_neg hji] at hl
              exact hm.closed j o' hj hl e he hb
        · rcases hG1 with h | ⟨h, _⟩
          · exact hm.ch.then_ h
          · exact h
      · refine Nat.le_of_lt_succ (Nat.lt_of_lt_of_le (Mr.filter_lt _ _ _ ?_ (List.mem_range.2 hlt) (x := i) ?_ ?_) hc)
        · intro j _ hj
          rw [getD_set _ _ _ (by omega)] at hj
          by_cases hji : j = i
          · subst hji; simp at hj
          · simpa [hji] using hj
        · simp [hf]
        · rw [getD_set _ _ _ (by omega)]; simp

theorem any_rel {Q : Exit → Act → World → Prop} {a : Act} {w : World} (hok : regOk ops a.tmps.size = true)
    (hst : ∀ vs i W W', G vs i W → Ch no W W' → G vs i W') (hdep : ∀ vs vs' i W, vs i = vs' i → (∀ o, ops[i]? = some o → ∀ e ∈ o.after, Region.binds .any e = true → vs e.on = vs' e.on) → G vs i W → G vs' i W) (hobl : Obls P ops G a w 0 ops.toList)
    (hfin : ∀ (vs : Nat → Value) (W : World), Ch no w W → (∀ i, i < ops.size → G vs i W) → Q .normal { a with tmps := fill ops.toList 0 vs a.tmps } W) :
    wpAny P .any ops Q ops.size (Array.replicate ops.size false) a w := by
  refine region_rel hok hst hdep hobl hfin ops.size (Array.replicate ops.size false) (fun _ => undef) a _ (by simp) ⟨rfl, rfl, ?_, fun _ _ => rfl, ?_, ?_, Ch.refl _ _⟩ (Nat.le_trans (List.length_filter_le _ _) (by simp))
  · intro i o d _ _ h
    simp [Array.getD_eq_getD_getElem?, Array.getElem?_replicate] at h
    split at h <;> simp at h
  · intro i o _ h
    simp [Array.getD_eq_getD_getElem?, Array.getElem?_replicate] at h
    split at h <;> simp at h
  · intro i o _ h
    simp [Array.getD_eq_getD_getElem?, Array.getElem?_replicate] at h
    split at h <;> simp at h
/-- The law in a round. -/
theorem wpIn_region_rel {id l n : Nat} {Q : Exit → Act → World → Prop} {a : Act} {w : World} (hm : P.follows .mixedOrders = true) (hd : Mt.noDefer ops = true) (hq : ¬ LetsOut Q) (hok : regOk ops a.tmps.size = true)
    (hst : ∀ vs i W W', G vs i W → Ch no W W' → G vs i W') (hdep : ∀ vs vs' i W, vs i = vs' i → (∀ o, ops[i]? = some o → ∀ e ∈ o.after, Region.binds .any e = true → vs e.on = vs' e.on) → G vs i W → G vs' i W) (hobl : Obls P ops G a w.drew 0 ops.toList)
    (hfin : ∀ (vs : Nat → Value) (W : World), Ch no w.drew W → (∀ i, i < ops.size → G vs i W) → Q .normal { a with tmps := fill ops.toList 0 vs a.tmps } W) :
    (Code.region id ops true).wpIn (Fence.wide.inRound l) n P Q a w :=
  wpIn_region_any hm (Mt.wpAny_in hd hq _ _ _ _ (any_rel hok hst hdep hobl hfin))
end
end Go.Proofs.YtekeiieefkgopaaDoor.Mu
