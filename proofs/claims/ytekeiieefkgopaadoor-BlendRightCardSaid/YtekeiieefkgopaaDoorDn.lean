/- A region that draws its order, of whose last two operations the first waits for all others and the second one for the first. -/
import Derived.Test.YtekeiieefkgopaaDoorMt
namespace Go.Proofs.YtekeiieefkgopaaDoor.Dn
open Go Go.Proofs.YtekeiieefkgopaaDoor.Aa Go.Proofs.YtekeiieefkgopaaDoor.Mr Go.Proofs.YtekeiieefkgopaaDoor.Mt
section
variable {P : Program} {ops : Array Oper}
/-- Those that an operation waits for, straight. -/
def onsOf (o : Oper) : List Nat := (o.after.toList.filter fun e => Region.binds .any e).map fun e => e.on
/-- Those that have come when the ones of S have, from i downwards. -/
def downs (ops : Array Oper) : Nat → List Nat → List Nat
  | 0, S => S
  | i + 1, S => downs ops i (if S.contains i then (match ops[i]? with | some o => onsOf o ++ S | none => S) else S)
/-- It waits for all ahead of it. -/
def lastN (ops : Array Oper) (k : Nat) : Bool := match ops[k]? with
  | some o => let S := downs ops k (onsOf o); (List.range k).all fun j => S.contains j
  | none => false
theorem onsOf_listed {o : Oper} {listed : Array Bool} (h : ∀ e ∈ o.after, Region.binds .any e = true → listed.getD e.on false = true) : ∀ j ∈ onsOf o, listed.getD j false = true := by
  intro j hj
  obtain ⟨e, he, rfl⟩ := List.mem_map.1 hj
  obtain ⟨h1, h2⟩ := List.mem_filter.1 he
  exact h e (by simpa using h1) h2
theorem downs_listed {listed : Array Bool} (hcl : ∀ j o, ops[j]? = some o → listed.getD j false = true → ∀ e ∈ o.after, Region.binds .any e = true → listed.getD e.on false = true) :
    ∀ (i : Nat) (S : List Nat), (∀ j ∈ S, listed.getD j false = true) → ∀ j ∈ downs ops i S, listed.getD j false = true := by
  intro i
  induction i with
  | zero => exact fun S h => h
  | succ i ih =>
    intro S h
    unfold downs
    refine ih _ ?_
    split
    · rename_i hc
      have hi : i ∈ S := by simpa using hc
      cases ho : ops[i]? with
      | none => exact h
      | some o =>
        intro j hj
        rcases List.mem_append.1 hj with hj | hj
        · exact onsOf_listed (hcl i o ho (h i hi)) j hj
        · exact h j hj
    · exact h
theorem lastN_listed {listed : Array Bool} (hcl : ∀ j o, ops[j]? = some o → listed.getD j false = true → ∀ e ∈ o.after, Region.binds .any e = true → listed.getD e.on false = true) {k : Nat} {o : Oper} (ho : ops[k]? = some o)
    (hr : ∀ e ∈ o.after, Region.binds .any e = true → listed.getD e.on false = true) (h : lastN ops k = true) : ∀ j, j < k → listed.getD j false = true := by
  intro j hj
  unfold lastN at h
  rw [ho] at h
  have h1 := List.all_eq_true.1 h j (List.mem_range.2 hj)
  exact downs_listed hcl k (onsOf o) (onsOf_listed hr) j (by simpa using h1)
theorem done_front2 {G : Nat → Value → World → Prop} {T : Nat → Nat → Prop} {a a' : Act} {w W : World} {listed : Array Bool} {vs : Nat → Value} {k : Nat} (hk : ops.size = k + 2) (hok : regOk ops a.tmps.size = true) (hm : Mid T ops G a w listed vs a' W)
    (hall : ∀ i, i < k → listed.getD i false = true) (hno : listed.getD k false = false) (hno1 : listed.getD (k + 1) false = false) : a' = { a with tmps := fill (ops.toList.take k) 0 vs a.tmps } := by
  have ht : a'.tmps = fill (ops.toList.take k) 0 vs a.tmps := by
    apply Array.ext_getElem?
    intro t
    by_cases hw : ∃ (j : Nat) (o' : Oper), j < k ∧ ops[j]? = some o' ∧ o'.dst = some t
    · obtain ⟨j, o', hjk, hj, hd⟩ := hw
      obtain ⟨hlt, huniq⟩ := ok_dst _ hok hj hd
      rw [hm.mine j o' t hj hd (hall j hjk), fill_at (ops.toList.take k) t 0 j vs a.tmps o' (by rw [List.getElem?_take_of_lt hjk, Array.getElem?_toList]; exact hj) hd hlt (fun i o2 hi hd2 => by
        rw [List.getElem?_take] at hi
        split at hi
        · exact huniq i o2 (by rw [Array.getElem?_toList] at hi; exact hi) hd2
        · cases hi)]
      simp
    · rw [hm.rest t (fun i o2 hi hd2 => ?_), fill_other]
      · intro o' ho' hd
        obtain ⟨j, hj⟩ := List.getElem?_of_mem ho'
        rw [List.getElem?_take] at hj
        split at hj
        · rename_i hjk
          exact hw ⟨j, o', hjk, by rw [Array.getElem?_toList] at hj; exact hj, hd⟩
        · cases hj
      · have hil := (Array.getElem?_eq_some_iff.1 hi).1
        by_cases hik : i = k
        · rw [hik]; exact hno
        by_cases hik1 : i = k + 1
        · rw [hik1]; exact hno1
        · exact absurd ⟨i, o2, by omega, hi, hd2⟩ hw
  have hd := hm.defers
  cases a'
  simp only [Act.mk.injEq] at *
  exact ⟨ht, hd⟩

theorem region_tail2 {G : Nat → Value → World → Prop} {Q : Exit → Act → World → Prop} {a : Act} {w : World} {k : Nat} (hok : regOk ops a.tmps.size = true) (hk : ops.size = k + 2) (hlb : lastN ops k = true) (hlb1 : waits ops 14 (k + 1) k = true)
    (hst : ∀ i v W W', G i v W → Ch no W W' → G i v W') (hobl : Obls (fun _ => no) P ops G a w 0 (ops.toList.take k))
    (hlast : ∀ (vs : Nat → Value) (W : World), Ch no w W → (∀ i, i < k → G i (vs i) W) → wpList P ops Q (ops.toList.drop k) { a with tmps := fill (ops.toList.take k) 0 vs a.tmps } W) :
    ∀ (fuel : Nat) (listed : Array Bool) (vs : Nat → Value) (a' : Act) (W : World), listed.size = ops.size → Mid (fun _ => no) ops G a w listed vs a' W → listed.getD k false = false →
      ((List.range ops.size).filter fun i => !listed.getD i false).length ≤ fuel → wpAny P .any ops Q fuel listed a' W := by
  obtain ⟨ol, hol⟩ : ∃ ol, ops[k]? = some ol := ⟨ops[k]'(by omega), Array.getElem?_eq_getElem (by omega)⟩
  obtain ⟨ol1, hol1⟩ : ∃ ol1, ops[k + 1]? = some ol1 := ⟨ops[k + 1]'(by omega), Array.getElem?_eq_getElem (by omega)⟩
  have hdrop : ops.toList.drop k = [ol, ol1] := by
    have h1 : ops.toList[k]? = some ol := by rw [Array.getElem?_toList]; exact hol
    have h2 : ops.toList[k + 1]? = some ol1 := by rw [Array.getElem?_toList]; exact hol1
    have hlt : k < ops.toList.length := by rw [Array.length_toList]; omega
    have hlt1 : k + 1 < ops.toList.length := by rw [Array.length_toList]; omega
    rw [List.drop_eq_getElem_cons hlt, List.drop_eq_getElem_cons hlt1, List.drop_of_length_le (by rw [Array.length_toList]; omega)]
    rw [List.getElem?_eq_getElem hlt] at h1
    rw [List.getElem?_eq_getElem hlt1] at h2
    rw [Option.some.inj h1, Option.some.inj h2]
  intro fuel
  induction fuel with
  | zero =>
    intro listed vs a' W hsz hm hkn hc
    exfalso
    have : k ∈ (List.range ops.size).filter fun i => !listed.getD i false := List.mem_filter.2 ⟨List.mem_range.2 (by omega), by rw [hkn]; rfl⟩
    rw [List.length_eq_zero_iff.1 (Nat.le_zero.1 hc)] at this
    simp at this
  | succ fuel ih =>
    intro listed vs a' W hsz hm hkn hc
    have hne : Region.ready .any ops listed ≠ [] := by
      intro hr
      have hall : ∀ n i, i < n → i < ops.size → listed.getD i false = true := by
        intro n
        induction n with
        | zero => intro i h; omega
        | succ n ih =>
          intro i h hi
          cases hl : listed.getD i false with
          | true => rfl
          | false =>
            exfalso
            have ho : ops[i]? = some ops[i] := Array.getElem?_eq_getElem hi
            have : i ∈ Region.ready .any ops listed := mem_ready.2 ⟨by
              rw [Array.getD_eq_getD_getElem?] at hl ⊢
              rw [Array.getElem?_eq_getElem (by omega)] at hl ⊢
              simpa using hl, _, ho, fun e he hb => ih e.on (by have := ok_after _ hok ho e he hb; omega) (by have := ok_after _ hok ho e he hb; omega)⟩
            rw [hr] at this
            simp at this
      have := hall (k + 1) k (by omega) (by omega)
      rw [hkn] at this
      cases this
    have hk1n : listed.getD (k + 1) false = false := by
      cases hl : listed.getD (k + 1) false with
      | false => rfl
      | true =>
        have h1 := waits_listed hm.closed k 14 (k + 1) ol1 hol1 (fun e he hb => hm.closed _ _ hol1 hl e he hb) hlb1
        rw [hkn] at h1; cases h1
    refine ⟨fun hr => absurd hr hne, fun i hi => ?_⟩
    obtain ⟨h0, o, ho, hr⟩ := mem_ready.1 hi
    have hlt := (Array.getElem?_eq_some_iff.1 ho).1
    have hf : listed.getD i false = false := by
      rw [Array.getD_eq_getD_getElem?] at h0 ⊢
      rw [Array.getElem?_eq_getElem (by omega)] at h0 ⊢
      simpa using h0
    by_cases hik : i = k
    · subst hik
      have ho' : o = ol := by rw [hol] at ho; exact (Option.some.inj ho).symm
      subst ho'
      have hall : ∀ j, j < i → listed.getD j false = true := lastN_listed hm.closed ho (fun e he hb => hr e he hb) hlb
      rw [done_front2 hk hok hm hall hkn hk1n]
      have hl := hlast vs W (noSome hm.ch) (fun j hj => hm.goods j _ (Array.getElem?_eq_getElem (by omega)) (hall j hj))
      rw [hdrop] at hl
      have hrd : Region.ready .any ops ((listed.setIfInBounds i true).setIfInBounds (i + 1) true) = [] := ready_all (by simpa using hsz) (fun j hj => by
        rw [getD_set _ _ _ (by simp; omega)]
        by_cases hji1 : j = i + 1
        · rw [if_pos hji1]
        rw [if_neg hji1, getD_set _ _ _ (by omega)]
        by_cases hji : j = i
        · rw [if_pos hji]
        · rw [if_neg hji]; exact hall j (by omega))
      have hset : ∀ j, (listed.setIfInBounds i true).getD j false = if j = i then true else listed.getD j false := fun j => getD_set _ _ _ (by omega)
      have hnext : ∀ (a2 : Act) (w2 : World), wpList P ops Q [ol1] a2 w2 → wpAny P .any ops Q fuel (listed.setIfInBounds i true) a2 w2 := by
        intro a2 w2 h2
        have hin : i + 1 ∈ (List.range ops.size).filter fun j => !(listed.setIfInBounds i true).getD j false := List.mem_filter.2 ⟨List.mem_range.2 (by omega), by rw [hset, if_neg (by omega), hk1n]; rfl⟩
        have hcnt : ((List.range ops.size).filter fun j => !(listed.setIfInBounds i true).getD j false).length < ((List.range ops.size).filter fun j => !listed.getD j false).length :=
          Mr.filter_lt _ _ _ (by
            intro j _ hj
            rw [hset] at hj
            by_cases hji : j = i
            · rw [if_pos hji] at hj; simp at hj
            · rwa [if_neg hji] at hj) (List.mem_range.2 hlt) (x := i) (by simp [hf]) (by rw [hset, if_pos rfl]; rfl)
        have hpos := List.length_pos_of_mem hin
        cases fuel with
        | zero => omega
        | succ n =>
          refine ⟨fun hr0 => ?_, fun i' hi' => ?_⟩
          · exfalso
            have hmem : i + 1 ∈ Region.ready .any ops (listed.setIfInBounds i true) := mem_ready.2 ⟨by
              have h3 := hset (i + 1)
              rw [if_neg (by omega), hk1n, Array.getD_eq_getD_getElem?] at h3
              rw [Array.getD_eq_getD_getElem?]
              rw [Array.getElem?_eq_getElem (by simp; omega)] at h3 ⊢
              simpa using h3, _, hol1, fun e he hb => by
              have hlt3 := ok_after _ hok hol1 e he hb
              rw [hset]
              by_cases hji : e.on = i
              · rw [if_pos hji]
              · rw [if_neg hji]; exact hall _ (by omega)⟩
            rw [hr0] at hmem
            simp at hmem
          · obtain ⟨h0', o', ho2, _⟩ := mem_ready.1 hi'
            have hlt' := (Array.getElem?_eq_some_iff.1 ho2).1
            have hf' : (listed.setIfInBounds i true).getD i' false = false := by
              rw [Array.getD_eq_getD_getElem?] at h0' ⊢
              rw [Array.getElem?_eq_getElem (by simp; omega)] at h0' ⊢
              simpa using h0'
            have hi1 : i' = i + 1 := by
              rw [hset] at hf'
              by_cases hji : i' = i
              · rw [if_pos hji] at hf'; cases hf'
              · rw [if_neg hji] at hf'
                apply Classical.byContradiction
                intro hne
                rw [hall i' (by omega)] at hf'
                cases hf'
            subst hi1
            unfold wpOp
            simp only [hol1]
            simp only [wpList] at h2
            split at h2
            · rename_i hw
              rw [if_pos hw]
              exact h2.imp (fun h => Oper.wp_mono (fun a w h => wpAny_of_all hrd h) h) id
            · rename_i hw
              rw [if_neg hw]
              exact wpAny_of_all hrd h2
      unfold wpOp
      simp only [ho]
      rw [wpList] at hl
      split at hl
      · rename_i hw
        rw [if_pos hw]
        exact hl.imp (fun h => Oper.wp_mono (fun a w h => hnext a w h) h) id
      · rename_i hw
        rw [if_neg hw]
        exact hnext _ _ hl
    by_cases hik1 : i = k + 1
    · exfalso
      subst hik1
      have ho' : o = ol1 := by rw [hol1] at ho; exact (Option.some.inj ho).symm
      subst ho'
      have h1 := waits_listed hm.closed k 14 (k + 1) o hol1 (fun e he hb => hr e he hb) hlb1
      rw [hkn] at h1; cases h1
    have hob := Obls.get (ops.toList.take k) 0 i o hobl (by rw [List.getElem?_take_of_lt (by omega), Array.getElem?_toList]; exact ho)
    rw [Nat.zero_add] at hob
    have hagree := fun t ht => hm.agree (t := t) hok ho hr ht
    refine wpOp_moved (T := fun _ => no) (G := G) (a := { a with tmps := fill ops.toList 0 vs a.tmps }) ho (ok_sel _ hok ho) ?_ ?_ ?_ (hob vs W (noSome hm.ch) ?_) ?_
    · intro x hx
      cases x with
      | tmp t =>
        have := hagree t (List.mem_append_left _ (List.mem_filterMap.2 ⟨.tmp t, by simpa using hx, rfl⟩))
        simp only [Act.eval, Array.getD_eq_getD_getElem?, this]
      | const v => rfl
      | global g => rfl
      | func f => rfl
    · unfold Region.wanted
      cases hg : o.guard with
      | none => rfl
      | some gw =>
        obtain ⟨g, want⟩ := gw
        have hy : yielded ops (fill ops.toList 0 vs a.tmps) g = yielded ops a'.tmps g := by
          unfold yielded
          cases ht : (ops[g]?).bind (·.dst) with
          | none => rfl
          | some t =>
            have := hagree t (by simp [Oper.looksAt, hg, ht])
            simp only [Option.bind_some, this]
        simp only [hy]
    · intro d hd
      show d < (fill ops.toList 0 vs a.tmps).size
      rw [fill_size]
      exact (ok_dst _ hok ho hd).1
    · intro e he hb
      have hl := hr e (by simpa using he) hb
      have hlt2 := ok_after _ hok ho e (by simpa using he) hb
      exact hm.goods e.on _ (Array.getElem?_eq_getElem (by omega)) hl
    · intro v W' hc' hG
      refine ih (listed.setIfInBounds i true) (fun j => if j = i then (match o.dst with | some _ => v | none => undef) else vs j) _ W' (by simpa using hsz) ?_ ?_ ?_
      · have hsz' : (a'.put o.dst v).tmps.size = a'.tmps.size := by unfold Act.put; cases o.dst <;> simp
        have hput : ∀ t, o.dst ≠ some t → (a'.put o.dst v).tmps[t]? = a'.tmps[t]? := by
          intro t ht
          unfold Act.put
          cases hd : o.dst with
          | none => rfl
          | some d => simp only []; rw [Array.getElem?_setIfInBounds_ne]; intro e; exact ht (by rw [hd, e])
        refine ⟨?_, ?_, ?_, ?_, ?_, ?_, ?_, ?_⟩
        · rw [← hm.defers]; unfold Act.put; cases o.dst <;> rfl
        · rw [hsz', hm.size]
        · intro j o' d hj hd hl
          rw [getD_set _ _ _ (by omega)] at hl
          by_cases hji : j = i
          · subst hji
            have : o' = o := by rw [ho] at hj; exact (Option.some.inj hj).symm
            subst this
            have hdlt := (ok_dst _ hok ho hd).1
            unfold Act.put
            simp only [hd, if_true]
            rw [Array.getElem?_setIfInBounds_self_of_lt]
            rw [hm.size]; exact hdlt
          · rw [if_neg hji] at hl ⊢
            rw [hput d (fun he => hji ((ok_dst _ hok ho he).2 j o' hj hd))]
            exact hm.mine j o' d hj hd hl
        · intro t ht
          by_cases hti : o.dst = some t
          · have := ht i o ho hti
            rw [getD_set _ _ _ (by omega), if_pos rfl] at this
            simp at this
          · rw [hput t hti]
            refine hm.rest t (fun j o' hj hd => ?_)
            have := ht j o' hj hd
            rw [getD_set _ _ _ (by omega)] at this
            by_cases hji : j = i
            · subst hji; rw [if_pos rfl] at this; simp at this
            · rwa [if_neg hji] at this
        · intro j o' hj hl
          rw [getD_set _ _ _ (by omega)] at hl
          by_cases hji : j = i
          · subst hji
            simp only [if_true]
            exact hG
          · rw [if_neg hji] at hl ⊢
            exact hst _ _ _ _ (hm.goods j o' hj hl) hc'
        · intro j o' hj hl e he hb
          rw [getD_set _ _ _ (by omega)] at hl ⊢
          by_cases hej : e.on = i
          · rw [if_pos hej]
          · rw [if_neg hej]
            by_cases hji : j = i
            · subst hji
              have : o' = o := by rw [ho] at hj; exact (Option.some.inj hj).symm
              subst this
              exact hr e (by simpa using he) hb
            · rw [if_neg hji] at hl
              exact hm.closed j o' hj hl e he hb
        · exact hm.ch.same (hc'.mono (fun k hk => ⟨i, hk⟩))
        · intro _
          exact (noSome hm.ch).then_ hc'
      · rw [getD_set _ _ _ (by omega), if_neg (fun e => hik e.symm)]; exact hkn
      · refine Nat.le_of_lt_succ (Nat.lt_of_lt_of_le (Mr.filter_lt _ _ _ ?_ (List.mem_range.2 hlt) (x := i) ?_ ?_) hc)
        · intro j _ hj
          rw [getD_set _ _ _ (by omega)] at hj
          by_cases hji : j = i
          · subst hji; simp at hj
          · simpa [hji] using hj
        · simp [hf]
        · rw [getD_set _ _ _ (by omega)]; simp

theorem any_tail2 {G : Nat → Value → World → Prop} {Q : Exit → Act → World → Prop} {a : Act} {w : World} (k : Nat) (hok : regOk ops a.tmps.size = true) (hk : ops.size = k + 2) (hlb : lastN ops k = true) (hlb1 : waits ops 14 (k + 1) k = true)
    (hst : ∀ i v W W', G i v W → Ch no W W' → G i v W') (hobl : Obls (fun _ => no) P ops G a w 0 (ops.toList.take k))
    (hlast : ∀ (vs : Nat → Value) (W : World), Ch no w W → (∀ i, i < k → G i (vs i) W) → wpList P ops Q (ops.toList.drop k) { a with tmps := fill (ops.toList.take k) 0 vs a.tmps } W) :
    wpAny P .any ops Q ops.size (Array.replicate ops.size false) a w :=
  region_tail2 hok hk hlb hlb1 hst hobl hlast ops.size (Array.replicate ops.size false) (fun _ => undef) a _ (by simp) (start_mid a _) (by simp [Array.getD_eq_getD_getElem?, Array.getElem?_replicate]; split <;> rfl) (Nat.le_trans (List.length_filter_le _ _) (by simp))

theorem wp_region_tail2 {id : Nat} {G : Nat → Value → World → Prop} {Q : Exit → Act → World → Prop} {a : Act} {w : World} (k : Nat) (hm : P.follows .mixedOrders = true) (hok : regOk ops a.tmps.size = true) (hk : ops.size = k + 2) (hlb : lastN ops k = true) (hlb1 : waits ops 14 (k + 1) k = true)
    (hst : ∀ i v W W', G i v W → Ch no W W' → G i v W') (hobl : Obls (fun _ => no) P ops G a w.drew 0 (ops.toList.take k))
    (hlast : ∀ (vs : Nat → Value) (W : World), Ch no w.drew W → (∀ i, i < k → G i (vs i) W) → wpList P ops Q (ops.toList.drop k) { a with tmps := fill (ops.toList.take k) 0 vs a.tmps } W) :
    (Code.region id ops true).wp P Q a w :=
  wp_region_any hm (any_tail2 k hok hk hlb hlb1 hst hobl hlast)
theorem region_tail9 {G : Nat → Value → World → Prop} {Q : Exit → Act → World → Prop} {a : Act} {w : World} {k : Nat} (hok : regOk ops a.tmps.size = true) (hk : ops.size = k + 1) (hlb : lastN ops k = true)
    (hst : ∀ i v W W', G i v W → Ch no W W' → G i v W') (hobl : Obls (fun _ => no) P ops G a w 0 (ops.toList.take k))
    (hlast : ∀ (vs : Nat → Value) (W : World), Ch no w W → (∀ i, i < k → G i (vs i) W) → wpList P ops Q (ops.toList.drop k) { a with tmps := fill (ops.toList.take k) 0 vs a.tmps } W) :
    ∀ (fuel : Nat) (listed : Array Bool) (vs : Nat → Value) (a' : Act) (W : World), listed.size = ops.size → Mid (fun _ => no) ops G a w listed vs a' W → listed.getD k false = false →
      ((List.range ops.size).filter fun i => !listed.getD i false).length ≤ fuel → wpAny P .any ops Q fuel listed a' W := by
  obtain ⟨ol, hol⟩ : ∃ ol, ops[k]? = some ol := ⟨ops[k]'(by omega), Array.getElem?_eq_getElem (by omega)⟩
  have hdrop : ops.toList.drop k = [ol] := by
    have h1 : ops.toList[k]? = some ol := by rw [Array.getElem?_toList]; exact hol
    have hlt : k < ops.toList.length := by rw [Array.length_toList]; omega
    rw [List.drop_eq_getElem_cons hlt, List.drop_of_length_le (by rw [Array.length_toList]; omega)]
    rw [List.getElem?_eq_getElem hlt] at h1
    simpa using h1
  intro fuel
  induction fuel with
  | zero =>
    intro listed vs a' W hsz hm hkn hc
    exfalso
    have : k ∈ (List.range ops.size).filter fun i => !listed.getD i false := List.mem_filter.2 ⟨List.mem_range.2 (by omega), by rw [hkn]; rfl⟩
    rw [List.length_eq_zero_iff.1 (Nat.le_zero.1 hc)] at this
    simp at this
  | succ fuel ih =>
    intro listed vs a' W hsz hm hkn hc
    have hne : Region.ready .any ops listed ≠ [] := by
      intro hr
      have hall : ∀ n i, i < n → i < ops.size → listed.getD i false = true := by
        intro n
        induction n with
        | zero => intro i h; omega
        | succ n ih =>
          intro i h hi
          cases hl : listed.getD i false with
          | true => rfl
          | false =>
            exfalso
            have ho : ops[i]? = some ops[i] := Array.getElem?_eq_getElem hi
            have : i ∈ Region.ready .any ops listed := mem_ready.2 ⟨by
              rw [Array.getD_eq_getD_getElem?] at hl ⊢
              rw [Array.getElem?_eq_getElem (by omega)] at hl ⊢
              simpa using hl, _, ho, fun e he hb => ih e.on (by have := ok_after _ hok ho e he hb; omega) (by have := ok_after _ hok ho e he hb; omega)⟩
            rw [hr] at this
            simp at this
      have := hall (k + 1) k (by omega) (by omega)
      rw [hkn] at this
      cases this
    refine ⟨fun hr => absurd hr hne, fun i hi => ?_⟩
    obtain ⟨h0, o, ho, hr⟩ := mem_ready.1 hi
    have hlt := (Array.getElem?_eq_some_iff.1 ho).1
    have hf : listed.getD i false = false := by
      rw [Array.getD_eq_getD_getElem?] at h0 ⊢
      rw [Array.getElem?_eq_getElem (by omega)] at h0 ⊢
      simpa using h0
    by_cases hik : i = k
    · subst hik
      have ho' : o = ol := by rw [hol] at ho; exact (Option.some.inj ho).symm
      subst ho'
      have hall : ∀ j, j < i → listed.getD j false = true := lastN_listed hm.closed ho (fun e he hb => hr e he hb) hlb
      rw [done_front hk hok hm hall hkn]
      have hl := hlast vs W (noSome hm.ch) (fun j hj => hm.goods j _ (Array.getElem?_eq_getElem (by omega)) (hall j hj))
      rw [hdrop] at hl
      have hrd : Region.ready .any ops (listed.setIfInBounds i true) = [] := ready_all (by simpa using hsz) (fun j hj => by
        rw [getD_set _ _ _ (by omega)]
        by_cases hji : j = i
        · rw [if_pos hji]
        · rw [if_neg hji]; exact hall j (by omega))
      unfold wpOp
      simp only [ho]
      simp only [wpList] at hl
      split at hl
      · rename_i hw
        rw [if_pos hw]
        exact hl.imp (fun h => Oper.wp_mono (fun a w h => wpAny_of_all hrd h) h) id
      · rename_i hw
        rw [if_neg hw]
        exact wpAny_of_all hrd hl
    have hob := Obls.get (ops.toList.take k) 0 i o hobl (by rw [List.getElem?_take_of_lt (by omega), Array.getElem?_toList]; exact ho)
    rw [Nat.zero_add] at hob
    have hagree := fun t ht => hm.agree (t := t) hok ho hr ht
    refine wpOp_moved (T := fun _ => no) (G := G) (a := { a with tmps := fill ops.toList 0 vs a.tmps }) ho (ok_sel _ hok ho) ?_ ?_ ?_ (hob vs W (noSome hm.ch) ?_) ?_
    · intro x hx
      cases x with
      | tmp t =>
        have := hagree t (List.mem_append_left _ (List.mem_filterMap.2 ⟨.tmp t, by simpa using hx, rfl⟩))
        simp only [Act.eval, Array.getD_eq_getD_getElem?, this]
      | const v => rfl
      | global g => rfl
      | func f => rfl
    · unfold Region.wanted
      cases hg : o.guard with
      | none => rfl
      | some gw =>
        obtain ⟨g, want⟩ := gw
        have hy : yielded ops (fill ops.toList 0 vs a.tmps) g = yielded ops a'.tmps g := by
          unfold yielded
          cases ht : (ops[g]?).bind (·.dst) with
          | none => rfl
          | some t =>
            have := hagree t (by simp [Oper.looksAt, hg, ht])
            simp only [Option.bind_some, this]
        simp only [hy]
    · intro d hd
      show d < (fill ops.toList 0 vs a.tmps).size
      rw [fill_size]
      exact (ok_dst _ hok ho hd).1
    · intro e he hb
      have hl := hr e (by simpa using he) hb
      have hlt2 := ok_after _ hok ho e (by simpa using he) hb
      exact hm.goods e.on _ (Array.getElem?_eq_getElem (by omega)) hl
    · intro v W' hc' hG
      refine ih (listed.setIfInBounds i true) (fun j => if j = i then (match o.dst with | some _ => v | none => undef) else vs j) _ W' (by simpa using hsz) ?_ ?_ ?_
      · have hsz' : (a'.put o.dst v).tmps.size = a'.tmps.size := by unfold Act.put; cases o.dst <;> simp
        have hput : ∀ t, o.dst ≠ some t → (a'.put o.dst v).tmps[t]? = a'.tmps[t]? := by
          intro t ht
          unfold Act.put
          cases hd : o.dst with
          | none => rfl
          | some d => simp only []; rw [Array.getElem?_setIfInBounds_ne]; intro e; exact ht (by rw [hd, e])
        refine ⟨?_, ?_, ?_, ?_, ?_, ?_, ?_, ?_⟩
        · rw [← hm.defers]; unfold Act.put; cases o.dst <;> rfl
        · rw [hsz', hm.size]
        · intro j o' d hj hd hl
          rw [getD_set _ _ _ (by omega)] at hl
          by_cases hji : j = i
          · subst hji
            have : o' = o := by rw [ho] at hj; exact (Option.some.inj hj).symm
            subst this
            have hdlt := (ok_dst _ hok ho hd).1
            unfold Act.put
            simp only [hd, if_true]
            rw [Array.getElem?_setIfInBounds_self_of_lt]
            rw [hm.size]; exact hdlt
          · rw [if_neg hji] at hl ⊢
            rw [hput d (fun he => hji ((ok_dst _ hok ho he).2 j o' hj hd))]
            exact hm.mine j o' d hj hd hl
        · intro t ht
          by_cases hti : o.dst = some t
          · have := ht i o ho hti
            rw [getD_set _ _ _ (by omega), if_pos rfl] at this
            simp at this
          · rw [hput t hti]
            refine hm.rest t (fun j o' hj hd => ?_)
            have := ht j o' hj hd
            rw [getD_set _ _ _ (by omega)] at this
            by_cases hji : j = i
            · subst hji; rw [if_pos rfl] at this; simp at this
            · rwa [if_neg hji] at this
        · intro j o' hj hl
          rw [getD_set _ _ _ (by omega)] at hl
          by_cases hji : j = i
          · subst hji
            simp only [if_true]
            exact hG
          · rw [if_neg hji] at hl ⊢
            exact hst _ _ _ _ (hm.goods j o' hj hl) hc'
        · intro j o' hj hl e he hb
          rw [getD_set _ _ _ (by omega)] at hl ⊢
          by_cases hej : e.on = i
          · rw [if_pos hej]
          · rw [if_neg hej]
            by_cases hji : j = i
            · subst hji
              have : o' = o := by rw [ho] at hj; exact (Option.some.inj hj).symm
              subst this
              exact hr e (by simpa using he) hb
            · rw [if_neg hji] at hl
              exact hm.closed j o' hj hl e he hb
        · exact hm.ch.same (hc'.mono (fun k hk => ⟨i, hk⟩))
        · intro _
          exact (noSome hm.ch).then_ hc'
      · rw [getD_set _ _ _ (by omega), if_neg (fun e => hik e.symm)]; exact hkn
      · refine Nat.le_of_lt_succ (Nat.lt_of_lt_of_le (Mr.filter_lt _ _ _ ?_ (List.mem_range.2 hlt) (x := i) ?_ ?_) hc)
        · intro j _ hj
          rw [getD_set _ _ _ (by omega)] at hj
          by_cases hji : j = i
          · subst hji; simp at hj
          · simpa [hji] using hj
        · simp [hf]
        · rw [getD_set _ _ _ (by omega)]; simp

theorem any_tail9 {G : Nat → Value → World → Prop} {Q : Exit → Act → World → Prop} {a : Act} {w : World} (k : Nat) (hok : regOk ops a.tmps.size = true) (hk : ops.size = k + 1) (hlb : lastN ops k = true)
    (hst : ∀ i v W W', G i v W → Ch no W W' → G i v W') (hobl : Obls (fun _ => no) P ops G a w 0 (ops.toList.take k))
    (hlast : ∀ (vs : Nat → Value) (W : World), Ch no w W → (∀ i, i < k → G i (vs i) W) → wpList P ops Q (ops.toList.drop k) { a with tmps := fill (ops.toList.take k) 0 vs a.tmps } W) :
    wpAny P .any ops Q ops.size (Array.replicate ops.size false) a w :=
  region_tail9 hok hk hlb hst hobl hlast ops.size (Array.replicate ops.size false) (fun _ => undef) a _ (by simp) (start_mid a _) (by simp [Array.getD_eq_getD_getElem?, Array.getElem?_replicate]; split <;> rfl) (Nat.le_trans (List.length_filter_le _ _) (by simp))

theorem wp_region_tail9 {id : Nat} {G : Nat → Value → World → Prop} {Q : Exit → Act → World → Prop} {a : Act} {w : World} (k : Nat) (hm : P.follows .mixedOrders = true) (hok : regOk ops a.tmps.size = true) (hk : ops.size = k + 1) (hlb : lastN ops k = true)
    (hst : ∀ i v W W', G i v W → Ch no W W' → G i v W') (hobl : Obls (fun _ => no) P ops G a w.drew 0 (ops.toList.take k))
    (hlast : ∀ (vs : Nat → Value) (W : World), Ch no w.drew W → (∀ i, i < k → G i (vs i) W) → wpList P ops Q (ops.toList.drop k) { a with tmps := fill (ops.toList.take k) 0 vs a.tmps } W) :
    (Code.region id ops true).wp P Q a w :=
  wp_region_any hm (any_tail9 k hok hk hlb hst hobl hlast)
/-- The same frame, by another name. -/
theorem wpList_frame {P : Program} {ops : Array Oper} {Q : Exit → Act → World → Prop} {l : List Oper} {t t' : Array Value} {ds : List Deferred} {W : World} (h : t = t') (h2 : wpList P ops Q l ⟨t', ds⟩ W) : wpList P ops Q l ⟨t, ds⟩ W := by subst h; exact h2
/-- The frame, filled, as a list. -/
def fillL : List Oper → Nat → (Nat → Value) → List Value → List Value
  | [], _, _, t => t
  | o :: r, i, vs, t => fillL r (i + 1) vs (match o.dst with | some d => t.set d (vs i) | none => t)
theorem fill_list (l : List Oper) : ∀ (i : Nat) (vs : Nat → Value) (t : List Value), fill l i vs t.toArray = (fillL l i vs t).toArray := by
  induction l with
  | nil => intro i vs t; rfl
  | cons o r ih =>
    intro i vs t
    unfold fill fillL
    cases o.dst with
    | none => exact ih _ _ _
    | some d => simp only [List.setIfInBounds_toArray]; exact ih _ _ _
end
end Go.Proofs.YtekeiieefkgopaaDoor.Dn
