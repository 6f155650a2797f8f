/- A region that draws its order, whose values and whose worlds are the same in every order. -/
import Derived.Test.YtekeiieefkgopaaDoorMr
namespace Go.Proofs.YtekeiieefkgopaaDoor.Ms
open Go Go.Proofs.YtekeiieefkgopaaDoor.Aa Go.Proofs.YtekeiieefkgopaaDoor.Mr

section
variable {P : Program} {ops : Array Oper}

/-- What is asked of an operation's end. -/
def EndsF (v : Value) (w1 : World) (ds : List Deferred) (o : Oper) : Exit → Act → World → Prop :=
  fun e a' w' => e = .normal ∧ a'.defers = ds ∧ (o.dst ≠ none → Mr.valOf o a' = v) ∧ w' = w1
/-- Those that an operation waits for have come, of whatever has come. -/
def Closed (ops : Array Oper) (D : Nat → Bool) : Prop := ∀ (j : Nat) (o : Oper), ops[j]? = some o → D j = true → ∀ e ∈ o.after.toList, Region.binds .any e = true → D e.on = true
def also (D : Nat → Bool) (i : Nat) : Nat → Bool := fun j => if j = i then true else D j
/-- One operation's obligation. -/
def OblF (P : Program) (ops : Array Oper) (vs : Nat → Value) (wd : (Nat → Bool) → World) (a : Act) (i : Nat) (o : Oper) : Prop :=
  ∀ D : Nat → Bool, Closed ops D → D i = false → (∀ e ∈ o.after.toList, Region.binds .any e = true → D e.on = true) →
    wpList P ops (EndsF (vs i) (wd (also D i)) a.defers o) [o] { a with tmps := fill ops.toList 0 vs a.tmps } (wd D)
def OblsF (P : Program) (ops : Array Oper) (vs : Nat → Value) (wd : (Nat → Bool) → World) (a : Act) : Nat → List Oper → Prop
  | _, [] => True
  | i, o :: r => OblF P ops vs wd a i o ∧ OblsF P ops vs wd a (i + 1) r
theorem OblsF.get {vs : Nat → Value} {wd : (Nat → Bool) → World} {a : Act} (l : List Oper) : ∀ (k i : Nat) (o : Oper), OblsF P ops vs wd a k l → l[i]? = some o → OblF P ops vs wd a (k + i) o := by
  induction l with
  | nil => intro k i o _ h; simp at h
  | cons x r ih =>
    intro k i o h hi
    cases i with
    | zero => have e : x = o := by simpa using hi
              subst e; exact h.1
    | succ i => have := ih (k + 1) i o h.2 (by simpa using hi)
                rwa [show k + 1 + i = k + (i + 1) from by omega] at this

/-- What is known between two operations. -/
structure MidF (ops : Array Oper) (vs : Nat → Value) (wd : (Nat → Bool) → World) (a : Act) (listed : Array Bool) (a' : Act) (W : World) : Prop where
  defers : a'.defers = a.defers
  size : a'.tmps.size = a.tmps.size
  mine : ∀ i o d, ops[i]? = some o → o.dst = some d → listed.getD i false = true → a'.tmps[d]? = some (vs i)
  rest : ∀ t, (∀ i o, ops[i]? = some o → o.dst = some t → listed.getD i false = false) → a'.tmps[t]? = a.tmps[t]?
  closed : Closed ops (fun i => listed.getD i false)
  world : W = wd (fun i => listed.getD i false)

/-- One operation, seen from another frame that agrees with the first one where it looks. -/
theorem wpOp_movedF {Q : Exit → Act → World → Prop} {i : Nat} {o : Oper} {a b : Act} {w w1 : World} {u : Value} (hi : ops[i]? = some o) (hs : ∀ cs b, o.op ≠ .select cs b)
    (hx : ∀ x ∈ o.op.operands, a.eval x = b.eval x) (hw : Region.wanted o (yielded ops a.tmps) = Region.wanted o (yielded ops b.tmps))
    (hda : ∀ d, o.dst = some d → d < a.tmps.size)
    (h : wpList P ops (EndsF u w1 a.defers o) [o] a w) {K : Act → World → Prop}
    (hK : ∀ v, (o.dst ≠ none → v = u) → K (b.put o.dst v) w1) : wpOp P ops Q i K b w := by
  unfold wpOp
  simp only [hi]
  simp only [wpList] at h
  rw [← hw]
  have hv : ∀ v w', (EndsF u w1 a.defers o) .normal (a.put o.dst v) w' → K (b.put o.dst v) w' := fun v w' he => by
    obtain ⟨_, _, h3, rfl⟩ := he
    refine hK v (fun hn => ?_)
    have := h3 hn
    rw [put_val hda] at this
    cases hd : o.dst with
    | none => exact absurd hd hn
    | some d => rw [hd] at this; exact this
  split at h
  · rename_i hwt
    rw [if_pos hwt]
    rcases h with h | ⟨_, a1, w1', h⟩
    · refine .inl ?_
      unfold Oper.wp at *
      rw [execOp_congr o hs hx] at h
      generalize (execOp b.eval o).run P w = r at *
      have hdf : ∀ (d : Deferred) (v : Value) w', ¬ (EndsF u w1 a.defers o) .normal ({ a with defers := d :: a.defers }.put o.dst v) w' := fun d v w' he => by
        have h1 := he.2.1
        have h2 : ({ a with defers := d :: a.defers }.put o.dst v).defers = d :: a.defers := by cases o.dst <;> rfl
        rw [h2] at h1
        have := congrArg List.length h1
        simp at this
      cases r with
      | ok n w' =>
        cases n <;> simp only [Oper.upon] at h ⊢ <;>
          first
            | exact hv _ _ h
            | exact absurd h (hdf _ _ _)
            | exact Calls.mono h (fun e w'' he => by cases e <;> first | exact hv _ _ he | (exact absurd he.1 (by simp)) | (obtain ⟨_, _, he⟩ := he; exact absurd he.1 (by simp)))
            | exact Rows.mono h (fun _ _ he => hv _ _ he)
      | halt x w' => cases x <;> simp only [Oper.upon] at h ⊢ <;> exact absurd h.1 (by simp)
    · exact absurd h.1 (by simp)
  · rename_i hwt
    rw [if_neg hwt]
    exact hv _ _ h

theorem MidF.agree {a a' : Act} {W : World} {listed : Array Bool} {vs : Nat → Value} {wd : (Nat → Bool) → World} (hok : regOk ops a.tmps.size = true) (hm : MidF ops vs wd a listed a' W)
    {i : Nat} {o : Oper} (hi : ops[i]? = some o) (hr : ∀ e ∈ o.after, Region.binds .any e = true → listed.getD e.on false = true) {t : Nat} (ht : t ∈ o.looksAt ops) :
    (fill ops.toList 0 vs a.tmps)[t]? = a'.tmps[t]? := by
  by_cases hw : ∃ (j : Nat) (o' : Oper), ops[j]? = some o' ∧ o'.dst = some t
  · obtain ⟨j, o', hj, hd⟩ := hw
    obtain ⟨e, he, hej, heb⟩ := ok_looks _ hok hi ht hj hd
    have hl := hr e he heb
    rw [hej] at hl
    obtain ⟨hlt, huniq⟩ := ok_dst _ hok hj hd
    rw [hm.mine j o' t hj hd hl, fill_at ops.toList t 0 j vs a.tmps o' (by rw [Array.getElem?_toList]; exact hj) hd hlt (fun k o2 hk hd2 => huniq k o2 (by rw [Array.getElem?_toList] at hk; exact hk) hd2)]
    simp
  · rw [hm.rest t (fun k o2 hk hd2 => absurd ⟨k, o2, hk, hd2⟩ hw), fill_other]
    intro o' ho' hd
    obtain ⟨j, hj⟩ := List.getElem?_of_mem ho'
    exact hw ⟨j, o', by rw [Array.getElem?_toList] at hj; exact hj, hd⟩

theorem MidF.done {a a' : Act} {W : World} {listed : Array Bool} {vs : Nat → Value} {wd : (Nat → Bool) → World} (hok : regOk ops a.tmps.size = true) (hm : MidF ops vs wd a listed a' W)
    (hall : ∀ i, i < ops.size → listed.getD i false = true) : a' = { a with tmps := fill ops.toList 0 vs a.tmps } := by
  have ht : a'.tmps = fill ops.toList 0 vs a.tmps := by
    apply Array.ext_getElem?
    intro t
    by_cases hw : ∃ (j : Nat) (o' : Oper), ops[j]? = some o' ∧ o'.dst = some t
    · obtain ⟨j, o', hj, hd⟩ := hw
      obtain ⟨hlt, huniq⟩ := ok_dst _ hok hj hd
      rw [hm.mine j o' t hj hd (hall j (Array.getElem?_eq_some_iff.1 hj).1), fill_at ops.toList t 0 j vs a.tmps o' (by rw [Array.getElem?_toList]; exact hj) hd hlt (fun k o2 hk hd2 => huniq k o2 (by rw [Array.getElem?_toList] at hk; exact hk) hd2)]
      simp
    · rw [hm.rest t (fun k o2 hk hd2 => absurd ⟨k, o2, hk, hd2⟩ hw), fill_other]
      intro o' ho' hd
      obtain ⟨j, hj⟩ := List.getElem?_of_mem ho'
      exact hw ⟨j, o', by rw [Array.getElem?_toList] at hj; exact hj, hd⟩
  have hd := hm.defers
  cases a'
  simp only [Act.mk.injEq] at *
  exact ⟨ht, hd⟩

theorem region_fixed {Q : Exit → Act → World → Prop} {a : Act} {vs : Nat → Value} {wd : (Nat → Bool) → World} (hok : regOk ops a.tmps.size = true) (hobl : OblsF P ops vs wd a 0 ops.toList)
    (hfin : Q .normal { a with tmps := fill ops.toList 0 vs a.tmps } (wd (fun i => decide (i < ops.size)))) :
    ∀ (fuel : Nat) (listed : Array Bool) (a' : Act) (W : World), listed.size = ops.size → MidF ops vs wd a listed a' W →
      ((List.range ops.size).filter fun i => !listed.getD i false).length ≤ fuel → wpAny P .any ops Q fuel listed a' W := by
  have key : ∀ (listed : Array Bool) (a' : Act) (W : World), listed.size = ops.size → MidF ops vs wd a listed a' W → Region.ready .any ops listed = [] → Q .normal a' W := by
    intro listed a' W hsz hm hr
    have hall : ∀ n i, i < n → i < ops.size → listed.getD i false = true := by
      intro n
      induction n with
      | zero => intro i h; omega
      | succ n ih =>
        intro i h hi
        cases hl : listed.getD i false with
        | true => rfl
        | false =>
          exfalso
          have ho : ops[i]? = some ops[i] := Array.getElem?_eq_getElem hi
          have : i ∈ Region.ready .any ops listed := mem_ready.2 ⟨by
            rw [Array.getD_eq_getD_getElem?] at hl ⊢
            rw [Array.getElem?_eq_getElem (by omega)] at hl ⊢
            simpa using hl, _, ho, fun e he hb => ih e.on (by have := ok_after _ hok ho e he hb; omega) (by have := ok_after _ hok ho e he hb; omega)⟩
          rw [hr] at this
          simp at this
    rw [hm.done hok (fun i hi => hall (i + 1) i (by omega) hi), hm.world]
    have e : (fun i => listed.getD i false) = (fun i => decide (i < ops.size)) := by
      funext i
      by_cases hi : i < ops.size
      · rw [hall (i + 1) i (by omega) hi]; simp [hi]
      · rw [Array.getD_eq_getD_getElem?, Array.getElem?_eq_none (by omega)]; simp [hi]
    rw [e]
    exact hfin
  intro fuel
  induction fuel with
  | zero =>
    intro listed a' W hsz hm hc
    have hr : Region.ready .any ops listed = [] := by
      rw [List.eq_nil_iff_forall_not_mem]
      intro i hi
      obtain ⟨h0, o, ho, _⟩ := mem_ready.1 hi
      have hlt := (Array.getElem?_eq_some_iff.1 ho).1
      have : i ∈ (List.range ops.size).filter fun i => !listed.getD i false := List.mem_filter.2 ⟨List.mem_range.2 hlt, by
        rw [Array.getD_eq_getD_getElem?] at h0 ⊢
        rw [Array.getElem?_eq_getElem (by omega)] at h0 ⊢
        simpa using h0⟩
      rw [List.length_eq_zero_iff.1 (Nat.le_zero.1 hc)] at this
      simp at this
    exact ⟨hr, key _ _ _ hsz hm hr⟩
  | succ fuel ih =>
    intro listed a' W hsz hm hc
    refine ⟨key _ _ _ hsz hm, fun i hi => ?_⟩
    obtain ⟨h0, o, ho, hr⟩ := mem_ready.1 hi
    have hlt := (Array.getElem?_eq_some_iff.1 ho).1
    have hf : listed.getD i false = false := by
      rw [Array.getD_eq_getD_getElem?] at h0 ⊢
      rw [Array.getElem?_eq_getElem (by omega)] at h0 ⊢
      simpa using h0
    have hob := OblsF.get ops.toList 0 i o hobl (by rw [Array.getElem?_toList]; exact ho)
    rw [Nat.zero_add] at hob
    have hagree := fun t ht => hm.agree (t := t) hok ho hr ht
    have hset : (fun j => (listed.setIfInBounds i true).getD j false) = also (fun j => listed.getD j false) i := by
      funext j
      rw [getD_set _ _ _ (by omega)]
      rfl
    rw [hm.world]
    refine wpOp_movedF (u := vs i) (w1 := wd (also (fun j => listed.getD j false) i)) (a := { a with tmps := fill ops.toList 0 vs a.tmps }) ho (ok_sel _ hok ho) ?_ ?_ ?_ (hob _ hm.closed hf (fun e he hb => hr e (by simpa using he) hb)) ?_
    · intro x hx
      cases x with
      | tmp t =>
        have := hagree t (List.mem_append_left _ (List.mem_filterMap.2 ⟨.tmp t, by simpa using hx, rfl⟩))
        simp only [Act.eval, Array.getD_eq_getD_getElem?, this]
      | const v => rfl
      | global g => rfl
      | func f => rfl
    · unfold Region.wanted
      cases hg : o.guard with
      | none => rfl
      | some gw =>
        obtain ⟨g, want⟩ := gw
        have hy : yielded ops (fill ops.toList 0 vs a.tmps) g = yielded ops a'.tmps g := by
          unfold yielded
          cases ht : (ops[g]?).bind (·.dst) with
          | none => rfl
          | some t =>
            have := hagree t (by simp [Oper.looksAt, hg, ht])
            simp only [Option.bind_some, this]
        simp only [hy]
    · intro d hd
      show d < (fill ops.toList 0 vs a.tmps).size
      rw [fill_size]
      exact (ok_dst _ hok ho hd).1
    · intro v hv
      refine ih (listed.setIfInBounds i true) _ _ (by simpa using hsz) ?_ ?_
      · have hsz' : (a'.put o.dst v).tmps.size = a'.tmps.size := by unfold Act.put; cases o.dst <;> simp
        have hput : ∀ t, o.dst ≠ some t → (a'.put o.dst v).tmps[t]? = a'.tmps[t]? := by
          intro t ht
          unfold Act.put
          cases hd : o.dst with
          | none => rfl
          | some d => simp only []; rw [Array.getElem?_setIfInBounds_ne]; intro e; exact ht (by rw [hd, e])
        refine ⟨?_, ?_, ?_, ?_, ?_, ?_⟩
        · rw [← hm.defers]; unfold Act.put; cases o.dst <;> rfl
        · rw [hsz', hm.size]
        · intro j o' d hj hd hl
          rw [getD_set _ _ _ (by omega)] at hl
          by_cases hji : j = i
          · subst hji
            have : o' = o := by rw [ho] at hj; exact (Option.some.inj hj).symm
            subst this
            have hdlt := (ok_dst _ hok ho hd).1
            have hv' := hv (by rw [hd]; simp)
            subst hv'
            unfold Act.put
            simp only [hd]
            rw [Array.getElem?_setIfInBounds_self_of_lt]
            rw [hm.size]; exact hdlt
          · rw [if_neg hji] at hl
            rw [hput d (fun he => hji ((ok_dst _ hok ho he).2 j o' hj hd))]
            exact hm.mine j o' d hj hd hl
        · intro t ht
          by_cases hti : o.dst = some t
          · have := ht i o ho hti
            rw [getD_set _ _ _ (by omega), if_pos rfl] at this
            simp at this
          · rw [hput t hti]
            refine hm.rest t (fun j o' hj hd => ?_)
            have := ht j o' hj hd
            rw [getD_set _ _ _ (by omega)] at this
            by_cases hji : j = i
            · subst hji; rw [if_pos rfl] at this; simp at this
            · rwa [if_neg hji] at this
        · rw [hset]
          intro j o' hj hl e he hb
          unfold also at hl ⊢
          by_cases hej : e.on = i
          · rw [if_pos hej]
          · rw [if_neg hej]
            by_cases hji : j = i
            · subst hji
              have : o' = o := by rw [ho] at hj; exact (Option.some.inj hj).symm
              subst this
              exact hr e (by simpa using he) hb
            · rw [if_neg hji] at hl
              exact hm.closed j o' hj hl e he hb
        · rw [hset]
      · refine Nat.le_of_lt_succ (Nat.lt_of_lt_of_le (Mr.filter_lt _ _ _ ?_ (List.mem_range.2 hlt) (x := i) ?_ ?_) hc)
        · intro j _ hj
          rw [getD_set _ _ _ (by omega)] at hj
          by_cases hji : j = i
          · subst hji; simp at hj
          · simpa [hji] using hj
        · simp [hf]
        · rw [getD_set _ _ _ (by omega)]; simp

/-- A region that draws its order, whose values are known ahead, and whose world is known by which operations have come. -/
theorem wp_region_fixed {id : Nat} {Q : Exit → Act → World → Prop} {a : Act} {w : World} (vs : Nat → Value) (wd : (Nat → Bool) → World) (hm : P.follows .mixedOrders = true) (hok : regOk ops a.tmps.size = true)
    (h0 : wd (fun _ => false) = w.drew) (hobl : OblsF P ops vs wd a 0 ops.toList)
    (hfin : Q .normal { a with tmps := fill ops.toList 0 vs a.tmps } (wd (fun i => decide (i < ops.size)))) :
    (Code.region id ops true).wp P Q a w := by
  refine wp_region_any hm ?_
  have e : ∀ i, (Array.replicate ops.size false).getD i false = false := by
    intro i
    simp [Array.getD_eq_getD_getElem?, Array.getElem?_replicate]
    split <;> simp
  refine region_fixed hok hobl hfin ops.size (Array.replicate ops.size false) a _ (by simp) ⟨rfl, rfl, ?_, fun _ _ => rfl, ?_, ?_⟩ ?_
  · intro i o d _ _ h
    rw [e i] at h; cases h
  · intro j o _ h
    simp only [e] at h
    cases h
  · rw [show (fun i => (Array.replicate ops.size false).getD i false) = (fun _ => false) from funext e, h0]
    rfl
  · exact Nat.le_trans (List.length_filter_le _ _) (by simp)

end
/-- What waits for one that has not come has not come. -/
theorem Closed.no {ops : Array Oper} {D : Nat → Bool} (h : Closed ops D) (j k : Nat) (hb : ((ops[j]?).any fun o => o.after.toList.any fun e => e.on == k && Region.binds .any e) = true) (hk : D k = false) : D j = false := by
  cases hD : D j with
  | false => rfl
  | true =>
    cases ho : ops[j]? with
    | none => rw [ho] at hb; simp at hb
    | some o =>
      rw [ho] at hb
      obtain ⟨e, he, h2⟩ := List.any_eq_true.1 hb
      simp only [Bool.and_eq_true, beq_iff_eq] at h2
      have := h j o ho hD e he h2.2
      rw [h2.1, hk] at this
      cases this
theorem setCell_comm (w : World) (p q : Addr) (u v : Value) (h : p.block ≠ q.block) : (w.setCell q v).setCell p u = (w.setCell p u).setCell q v := by
  unfold World.setCell
  simp only []
  congr 1
  apply Array.ext_getElem?
  intro i
  simp only [Array.getElem?_modify]
  by_cases h1 : p.block = i
  · rw [if_pos h1, if_neg (by omega), if_neg (by omega), if_pos h1]
  · by_cases h2 : q.block = i
    · rw [if_neg h1, if_pos h2, if_pos h2, if_neg h1]
    · rw [if_neg h1, if_neg h2, if_neg h2, if_neg h1]
/-- Two stores, in whichever order. -/
def wd2 (W : World) (i j : Nat) (p q : Addr) (u v : Value) (D : Nat → Bool) : World := bif D j then (bif D i then W.setCell p u else W).setCell q v else (bif D i then W.setCell p u else W)
section
variable {W : World} {i j : Nat} {p q : Addr} {u v : Value} {D : Nat → Bool}
theorem wd2_none (h1 : D i = false) (h2 : D j = false) : wd2 W i j p q u v D = W := by simp [wd2, h1, h2]
theorem wd2_first (h1 : D i = true) (h2 : D j = false) : wd2 W i j p q u v D = W.setCell p u := by simp [wd2, h1, h2]
theorem wd2_first_also {k : Nat} (h1 : D i = true) (h2 : D j = false) (h3 : i ≠ k) (h4 : j ≠ k) : wd2 W i j p q u v (also D k) = W.setCell p u := by simp [wd2, also, h1, h2, h3, h4]
theorem wd2_i (h2 : D j = false) (h3 : j ≠ i) : wd2 W i j p q u v (also D i) = W.setCell p u := by simp [wd2, also, h2, h3]
theorem wd2_j (h1 : D i = true) (h3 : i ≠ j) : wd2 W i j p q u v (also D j) = (W.setCell p u).setCell q v := by simp [wd2, also, h1, h3]
theorem wd2_also {k : Nat} (h1 : D i = false) (h2 : D j = false) (h3 : i ≠ k) (h4 : j ≠ k) : wd2 W i j p q u v (also D k) = W := by simp [wd2, also, h1, h2, h3, h4]
end

end Go.Proofs.YtekeiieefkgopaaDoor.Ms
