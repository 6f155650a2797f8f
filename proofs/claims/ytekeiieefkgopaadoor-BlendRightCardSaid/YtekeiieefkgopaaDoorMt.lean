/- A region that draws its order, whose last operation waits for all others: the others leave what was there as it was (one obligation each), then the last one is walked. The same in a round of a range over a function. -/
import Derived.Test.YtekeiieefkgopaaDoorMr
import Derived.OrdersIn
import Derived.TacticsIn
import Derived.RangeFuncCalls
namespace Go.Proofs.YtekeiieefkgopaaDoor.Mt
open Go Go.Proofs.YtekeiieefkgopaaDoor.Aa Go.Proofs.YtekeiieefkgopaaDoor.Mr

theorem noSome {w W : World} (h : Ch (fun k => ∃ _ : Nat, no k) w W) : Ch no w W := h.mono (fun _ hk => hk.elim fun _ hi => hi)

section
variable {P : Program} {ops : Array Oper}

/-- It waits for another one, straight or by some that lie between. -/
def waits (ops : Array Oper) : Nat → Nat → Nat → Bool
  | 0, _, _ => false
  | f + 1, i, j => match ops[i]? with
    | none => false
    | some o => (o.after.any fun e => e.on == j && Region.binds .any e) || (o.after.any fun e => Region.binds .any e && waits ops f e.on j)
/-- It waits for all ahead of it. -/
def lastT (ops : Array Oper) (k : Nat) : Bool := (List.range k).all fun j => waits ops 4 k j
theorem waits_listed {listed : Array Bool} (hcl : ∀ j o, ops[j]? = some o → listed.getD j false = true → ∀ e ∈ o.after, Region.binds .any e = true → listed.getD e.on false = true) (j : Nat) :
    ∀ (f i : Nat) (o : Oper), ops[i]? = some o → (∀ e ∈ o.after, Region.binds .any e = true → listed.getD e.on false = true) → waits ops f i j = true → listed.getD j false = true := by
  intro f
  induction f with
  | zero => intro i o _ _ h; simp [waits] at h
  | succ f ih =>
    intro i o ho hr h
    simp only [waits, ho, Bool.or_eq_true] at h
    rcases h with h | h
    · obtain ⟨n, hn, hb⟩ := Array.any_eq_true.1 h
      simp only [Bool.and_eq_true, beq_iff_eq] at hb
      rw [← hb.1]
      exact hr _ (Array.getElem_mem _) hb.2
    · obtain ⟨n, hn, hb⟩ := Array.any_eq_true.1 h
      simp only [Bool.and_eq_true] at hb
      have hl := hr _ (Array.getElem_mem _) hb.1
      cases ho2 : ops[(o.after[n]).on]? with
      | none =>
        have h2 := hb.2
        cases f with
        | zero => simp [waits] at h2
        | succ f => simp [waits, ho2] at h2
      | some o2 => exact ih _ o2 ho2 (hcl _ o2 ho2 hl) hb.2

theorem wpAny_of_all {Q : Exit → Act → World → Prop} {fuel : Nat} {listed : Array Bool} {a : Act} {w : World} (hr : Region.ready .any ops listed = []) (h : Q .normal a w) : wpAny P .any ops Q fuel listed a w := by
  cases fuel with
  | zero => exact ⟨hr, h⟩
  | succ n => exact ⟨fun _ => h, fun i hi => by rw [hr] at hi; simp at hi⟩

theorem ready_all {listed : Array Bool} (hsz : listed.size = ops.size) (h : ∀ i, i < ops.size → listed.getD i false = true) : Region.ready .any ops listed = [] := by
  rw [List.eq_nil_iff_forall_not_mem]
  intro i hi
  obtain ⟨h0, o, ho, _⟩ := mem_ready.1 hi
  have hlt := (Array.getElem?_eq_some_iff.1 ho).1
  have := h i hlt
  rw [Array.getD_eq_getD_getElem?, Array.getElem?_eq_getElem (by omega)] at this h0
  simp_all

/-- All but the last one have come: the frame is the filled one. -/
theorem done_front {G : Nat → Value → World → Prop} {T : Nat → Nat → Prop} {a a' : Act} {w W : World} {listed : Array Bool} {vs : Nat → Value} {k : Nat} (hk : ops.size = k + 1) (hok : regOk ops a.tmps.size = true) (hm : Mid T ops G a w listed vs a' W)
    (hall : ∀ i, i < k → listed.getD i false = true) (hno : listed.getD k false = false) : a' = { a with tmps := fill (ops.toList.take k) 0 vs a.tmps } := by
  have ht : a'.tmps = fill (ops.toList.take k) 0 vs a.tmps := by
    apply Array.ext_getElem?
    intro t
    by_cases hw : ∃ (j : Nat) (o' : Oper), j < k ∧ ops[j]? = some o' ∧ o'.dst = some t
    · obtain ⟨j, o', hjk, hj, hd⟩ := hw
      obtain ⟨hlt, huniq⟩ := ok_dst _ hok hj hd
      rw [hm.mine j o' t hj hd (hall j hjk), fill_at (ops.toList.take k) t 0 j vs a.tmps o' (by rw [List.getElem?_take_of_lt hjk, Array.getElem?_toList]; exact hj) hd hlt (fun i o2 hi hd2 => by
        rw [List.getElem?_take] at hi
        split at hi
        · exact huniq i o2 (by rw [Array.getElem?_toList] at hi; exact hi) hd2
        · cases hi)]
      simp
    · rw [hm.rest t (fun i o2 hi hd2 => ?_), fill_other]
      · intro o' ho' hd
        obtain ⟨j, hj⟩ := List.getElem?_of_mem ho'
        rw [List.getElem?_take] at hj
        split at hj
        · rename_i hjk
          exact hw ⟨j, o', hjk, by rw [Array.getElem?_toList] at hj; exact hj, hd⟩
        · cases hj
      · have hil := (Array.getElem?_eq_some_iff.1 hi).1
        by_cases hik : i = k
        · rw [hik]; exact hno
        · exact absurd ⟨i, o2, by omega, hi, hd2⟩ hw
  have hd := hm.defers
  cases a'
  simp only [Act.mk.injEq] at *
  exact ⟨ht, hd⟩

theorem region_tail {G : Nat → Value → World → Prop} {Q : Exit → Act → World → Prop} {a : Act} {w : World} {k : Nat} (hok : regOk ops a.tmps.size = true) (hk : ops.size = k + 1) (hlb : lastT ops k = true)
    (hst : ∀ i v W W', G i v W → Ch no W W' → G i v W') (hobl : Obls (fun _ => no) P ops G a w 0 (ops.toList.take k))
    (hlast : ∀ (vs : Nat → Value) (W : World), Ch no w W → (∀ i, i < k → G i (vs i) W) → wpList P ops Q (ops.toList.drop k) { a with tmps := fill (ops.toList.take k) 0 vs a.tmps } W) :
    ∀ (fuel : Nat) (listed : Array Bool) (vs : Nat → Value) (a' : Act) (W : World), listed.size = ops.size → Mid (fun _ => no) ops G a w listed vs a' W → listed.getD k false = false →
      ((List.range ops.size).filter fun i => !listed.getD i false).length ≤ fuel → wpAny P .any ops Q fuel listed a' W := by
  obtain ⟨ol, hol⟩ : ∃ ol, ops[k]? = some ol := ⟨ops[k]'(by omega), Array.getElem?_eq_getElem (by omega)⟩
  have hdrop : ops.toList.drop k = [ol] := by
    have h1 : ops.toList[k]? = some ol := by rw [Array.getElem?_toList]; exact hol
    have hlt : k < ops.toList.length := by rw [Array.length_toList]; omega
    rw [List.drop_eq_getElem_cons hlt, List.drop_of_length_le (by rw [Array.length_toList]; omega)]
    rw [List.getElem?_eq_getElem hlt] at h1
    simpa using h1
  intro fuel
  induction fuel with
  | zero =>
    intro listed vs a' W hsz hm hkn hc
    exfalso
    have : k ∈ (List.range ops.size).filter fun i => !listed.getD i false := List.mem_filter.2 ⟨List.mem_range.2 (by omega), by rw [hkn]; rfl⟩
    rw [List.length_eq_zero_iff.1 (Nat.le_zero.1 hc)] at this
    simp at this
  | succ fuel ih =>
    intro listed vs a' W hsz hm hkn hc
    have hne : Region.ready .any ops listed ≠ [] := by
      intro hr
      have hall : ∀ n i, i < n → i < ops.size → listed.getD i false = true := by
        intro n
        induction n with
        | zero => intro i h; omega
        | succ n ih =>
          intro i h hi
          cases hl : listed.getD i false with
          | true => rfl
          | false =>
            exfalso
            have ho : ops[i]? = some ops[i] := Array.getElem?_eq_getElem hi
            have : i ∈ Region.ready .any ops listed := mem_ready.2 ⟨by
              rw [Array.getD_eq_getD_getElem?] at hl ⊢
              rw [Array.getElem?_eq_getElem (by omega)] at hl ⊢
              simpa using hl, _, ho, fun e he hb => ih e.on (by have := ok_after _ hok ho e he hb; omega) (by have := ok_after _ hok ho e he hb; omega)⟩
            rw [hr] at this
            simp at this
      have := hall (k + 1) k (by omega) (by omega)
      rw [hkn] at this
      cases this
    refine ⟨fun hr => absurd hr hne, fun i hi => ?_⟩
    obtain ⟨h0, o, ho, hr⟩ := mem_ready.1 hi
    have hlt := (Array.getElem?_eq_some_iff.1 ho).1
    have hf : listed.getD i false = false := by
      rw [Array.getD_eq_getD_getElem?] at h0 ⊢
      rw [Array.getElem?_eq_getElem (by omega)] at h0 ⊢
      simpa using h0
    by_cases hik : i = k
    · subst hik
      have ho' : o = ol := by rw [hol] at ho; exact (Option.some.inj ho).symm
      subst ho'
      have hall : ∀ j, j < i → listed.getD j false = true := fun j hj =>
        waits_listed hm.closed j 4 i o ho (fun e he hb => hr e he hb) (List.all_eq_true.1 hlb j (List.mem_range.2 hj))
      rw [done_front hk hok hm hall hkn]
      have hl := hlast vs W (noSome hm.ch) (fun j hj => hm.goods j _ (Array.getElem?_eq_getElem (by omega)) (hall j hj))
      rw [hdrop] at hl
      have hrd : Region.ready .any ops (listed.setIfInBounds i true) = [] := ready_all (by simpa using hsz) (fun j hj => by
        rw [getD_set _ _ _ (by omega)]
        by_cases hji : j = i
        · rw [if_pos hji]
        · rw [if_neg hji]; exact hall j (by omega))
      unfold wpOp
      simp only [ho]
      simp only [wpList] at hl
      split at hl
      · rename_i hw
        rw [if_pos hw]
        exact hl.imp (fun h => Oper.wp_mono (fun a w h => wpAny_of_all hrd h) h) id
      · rename_i hw
        rw [if_neg hw]
        exact wpAny_of_all hrd hl
    have hob := Obls.get (ops.toList.take k) 0 i o hobl (by rw [List.getElem?_take_of_lt (by omega), Array.getElem?_toList]; exact ho)
    rw [Nat.zero_add] at hob
    have hagree := fun t ht => hm.agree (t := t) hok ho hr ht
    refine wpOp_moved (T := fun _ => no) (G := G) (a := { a with tmps := fill ops.toList 0 vs a.tmps }) ho (ok_sel _ hok ho) ?_ ?_ ?_ (hob vs W (noSome hm.ch) ?_) ?_
    · intro x hx
      cases x with
      | tmp t =>
        have := hagree t (List.mem_append_left _ (List.mem_filterMap.2 ⟨.tmp t, by simpa using hx, rfl⟩))
        simp only [Act.eval, Array.getD_eq_getD_getElem?, this]
      | const v => rfl
      | global g => rfl
      | func f => rfl
    · unfold Region.wanted
      cases hg : o.guard with
      | none => rfl
      | some gw =>
        obtain ⟨g, want⟩ := gw
        have hy : yielded ops (fill ops.toList 0 vs a.tmps) g = yielded ops a'.tmps g := by
          unfold yielded
          cases ht : (ops[g]?).bind (·.dst) with
          | none => rfl
          | some t =>
            have := hagree t (by simp [Oper.looksAt, hg, ht])
            simp only [Option.bind_some, this]
        simp only [hy]
    · intro d hd
      show d < (fill ops.toList 0 vs a.tmps).size
      rw [fill_size]
      exact (ok_dst _ hok ho hd).1
    · intro e he hb
      have hl := hr e (by simpa using he) hb
      have hlt2 := ok_after _ hok ho e (by simpa using he) hb
      exact hm.goods e.on _ (Array.getElem?_eq_getElem (by omega)) hl
    · intro v W' hc' hG
      refine ih (listed.setIfInBounds i true) (fun j => if j = i then (match o.dst with | some _ => v | none => undef) else vs j) _ W' (by simpa using hsz) ?_ ?_ ?_
      · have hsz' : (a'.put o.dst v).tmps.size = a'.tmps.size := by unfold Act.put; cases o.dst <;> simp
        have hput : ∀ t, o.dst ≠ some t → (a'.put o.dst v).tmps[t]? = a'.tmps[t]? := by
          intro t ht
          unfold Act.put
          cases hd : o.dst with
          | none => rfl
          | some d => simp only []; rw [Array.getElem?_setIfInBounds_ne]; intro e; exact ht (by rw [hd, e])
        refine ⟨?_, ?_, ?_, ?_, ?_, ?_, ?_, ?_⟩
        · rw [← hm.defers]; unfold Act.put; cases o.dst <;> rfl
        · rw [hsz', hm.size]
        · intro j o' d hj hd hl
          rw [getD_set _ _ _ (by omega)] at hl
          by_cases hji : j = i
          · subst hji
            have : o' = o := by rw [ho] at hj; exact (Option.some.inj hj).symm
            subst this
            have hdlt := (ok_dst _ hok ho hd).1
            unfold Act.put
            simp only [hd, if_true]
            rw [Array.getElem?_setIfInBounds_self_of_lt]
            rw [hm.size]; exact hdlt
          · rw [if_neg hji] at hl ⊢
            rw [hput d (fun he => hji ((ok_dst _ hok ho he).2 j o' hj hd))]
            exact hm.mine j o' d hj hd hl
        · intro t ht
          by_cases hti : o.dst = some t
          · have := ht i o ho hti
            rw [getD_set _ _ _ (by omega), if_pos rfl] at this
            simp at this
          · rw [hput t hti]
            refine hm.rest t (fun j o' hj hd => ?_)
            have := ht j o' hj hd
            rw [getD_set _ _ _ (by omega)] at this
            by_cases hji : j = i
            · subst hji; rw [if_pos rfl] at this; simp at this
            · rwa [if_neg hji] at this
        · intro j o' hj hl
          rw [getD_set _ _ _ (by omega)] at hl
          by_cases hji : j = i
          · subst hji
            simp only [if_true]
            exact hG
          · rw [if_neg hji] at hl ⊢
            exact hst _ _ _ _ (hm.goods j o' hj hl) hc'
        · intro j o' hj hl e he hb
          rw [getD_set _ _ _ (by omega)] at hl ⊢
          by_cases hej : e.on = i
          · rw [if_pos hej]
          · rw [if_neg hej]
            by_cases hji : j = i
            · subst hji
              have : o' = o := by rw [ho] at hj; exact (Option.some.inj hj).symm
              subst this
              exact hr e (by simpa using he) hb
            · rw [if_neg hji] at hl
              exact hm.closed j o' hj hl e he hb
        · exact hm.ch.same (hc'.mono (fun k hk => ⟨i, hk⟩))
        · intro _
          exact (noSome hm.ch).then_ hc'
      · rw [getD_set _ _ _ (by omega), if_neg (fun e => hik e.symm)]; exact hkn
      · refine Nat.le_of_lt_succ (Nat.lt_of_lt_of_le (Mr.filter_lt _ _ _ ?_ (List.mem_range.2 hlt) (x := i) ?_ ?_) hc)
        · intro j _ hj
          rw [getD_set _ _ _ (by omega)] at hj
          by_cases hji : j = i
          · subst hji; simp at hj
          · simpa [hji] using hj
        · simp [hf]
        · rw [getD_set _ _ _ (by omega)]; simp

theorem start_mid {G : Nat → Value → World → Prop} (a : Act) (w : World) : Mid (fun _ => no) ops G a w (Array.replicate ops.size false) (fun _ => undef) a w := by
  refine ⟨rfl, rfl, ?_, fun _ _ => rfl, ?_, ?_, Ch.refl _ _, fun _ => Ch.refl _ _⟩
  · intro i o d _ _ h
    simp [Array.getD_eq_getD_getElem?, Array.getElem?_replicate] at h
    split at h <;> simp at h
  · intro i o _ h
    simp [Array.getD_eq_getD_getElem?, Array.getElem?_replicate] at h
    split at h <;> simp at h
  · intro i o _ h
    simp [Array.getD_eq_getD_getElem?, Array.getElem?_replicate] at h
    split at h <;> simp at h

theorem any_tail {G : Nat → Value → World → Prop} {Q : Exit → Act → World → Prop} {a : Act} {w : World} (k : Nat) (hok : regOk ops a.tmps.size = true) (hk : ops.size = k + 1) (hlb : lastT ops k = true)
    (hst : ∀ i v W W', G i v W → Ch no W W' → G i v W') (hobl : Obls (fun _ => no) P ops G a w 0 (ops.toList.take k))
    (hlast : ∀ (vs : Nat → Value) (W : World), Ch no w W → (∀ i, i < k → G i (vs i) W) → wpList P ops Q (ops.toList.drop k) { a with tmps := fill (ops.toList.take k) 0 vs a.tmps } W) :
    wpAny P .any ops Q ops.size (Array.replicate ops.size false) a w :=
  region_tail hok hk hlb hst hobl hlast ops.size (Array.replicate ops.size false) (fun _ => undef) a _ (by simp) (start_mid a _) (by simp [Array.getD_eq_getD_getElem?, Array.getElem?_replicate]; split <;> rfl) (Nat.le_trans (List.length_filter_le _ _) (by simp))

theorem wp_region_tail {id : Nat} {G : Nat → Value → World → Prop} {Q : Exit → Act → World → Prop} {a : Act} {w : World} (k : Nat) (hm : P.follows .mixedOrders = true) (hok : regOk ops a.tmps.size = true) (hk : ops.size = k + 1) (hlb : lastT ops k = true)
    (hst : ∀ i v W W', G i v W → Ch no W W' → G i v W') (hobl : Obls (fun _ => no) P ops G a w.drew 0 (ops.toList.take k))
    (hlast : ∀ (vs : Nat → Value) (W : World), Ch no w.drew W → (∀ i, i < k → G i (vs i) W) → wpList P ops Q (ops.toList.drop k) { a with tmps := fill (ops.toList.take k) 0 vs a.tmps } W) :
    (Code.region id ops true).wp P Q a w :=
  wp_region_any hm (any_tail k hok hk hlb hst hobl hlast)
end

/-! In a round. -/
section
variable {P : Program} {ops : Array Oper} {Q : Exit → Act → World → Prop} {l n : Nat}

/-- No operation puts anything off. -/
def noDefer (ops : Array Oper) : Bool := ops.all fun o => match o.op with | .defer _ => false | _ => true
theorem noDefer_at (h : noDefer ops = true) {i : Nat} {o : Oper} (hi : ops[i]? = some o) : ∀ c, o.op ≠ .defer c := by
  intro c hc
  obtain ⟨hl, rfl⟩ := Array.getElem?_eq_some_iff.1 hi
  have := Array.all_eq_true.1 h i hl
  simp only [hc] at this
  cases this

theorem oper_in {o : Oper} {a : Act} {w : World} {K : Act → World → Prop} (hd : ∀ c, o.op ≠ .defer c) (h : o.wp P a w K Q) : o.wpIn (Fence.wide.inRound l) n P a w K Q := by
  unfold Oper.wp at h
  unfold Oper.wpIn
  refine ⟨fun _ _ => trivial, ?_⟩
  rw [Oper.semAt_eq _ _ _ hd]
  generalize (execOp a.eval o).run P w = r at *
  cases r with
  | ok x w' =>
    cases x
    case enter f args =>
      simp only [Oper.upon, Oper.uponIn] at h ⊢
      refine ⟨fun hh => (by simp [Fence.wide] at hh), ?_⟩
      have h2 : CallsIn Fence.wide (n - 1) P f args w' _ := callsIn_wide.2 h
      exact CallsIn.mono (CallsIn.inRound l h2) (fun e w he => by cases e <;> exact he)
    case row rw args =>
      simp only [Oper.upon, Oper.uponIn] at h ⊢
      exact ⟨fun hh => (by simp [Fence.wide] at hh), fun c cs _ => let ⟨v, w', r, s⟩ := h c cs; ⟨v, w', r, stepsIn_wide.2 s⟩⟩
    all_goals first | (simp only [Oper.upon, Oper.uponIn] at h ⊢; done) | (simp only [Oper.upon, Oper.uponIn] at h ⊢; exact h)
  | halt x w' => cases x <;> simp only [Oper.upon, Oper.uponIn] at h ⊢ <;> exact h

theorem wpOp_in {i : Nat} {a : Act} {w : World} {K : Act → World → Prop} (hd : noDefer ops = true) (hq : ¬ LetsOut Q) (h : wpOp P ops Q i K a w) : wpOpIn (Fence.wide.inRound l) n P ops Q i K a w := by
  unfold wpOp at h
  unfold wpOpIn
  cases ho : ops[i]? with
  | none => simpa [ho] using h
  | some o =>
    simp only [ho] at h ⊢
    split at h
    · rename_i hw
      rw [if_pos hw]
      exact oper_in (noDefer_at hd ho) (h.resolve_right (fun hh => hq hh.2))
    · rename_i hw
      rw [if_neg hw]
      exact ⟨fun _ _ => trivial, h⟩

theorem wpAny_in (hd : noDefer ops = true) (hq : ¬ LetsOut Q) : ∀ (fuel : Nat) (listed : Array Bool) (a : Act) (w : World), wpAny P .any ops Q fuel listed a w → wpAnyIn (Fence.wide.inRound l) n P .any ops Q fuel listed a w
  | 0, _, _, _, h => h
  | fuel + 1, _, _, _, h => ⟨h.1, fun i hi => wpOpIn_mono (fun a w h => wpAny_in hd hq fuel _ a w h) (wpOp_in hd hq (h.2 i hi))⟩

/-- A walk of operations, in a round. -/
theorem wpListIn_of (hq : ¬ LetsOut Q) : ∀ (os : List Oper) (a : Act) (w : World), (∀ o ∈ os, ∀ c, o.op ≠ .defer c) → wpList P ops Q os a w → wpListIn (Fence.wide.inRound l) n P ops Q os a w
  | [], _, _, _, h => h
  | o :: r, a, w, hd, h => by
    simp only [wpList, wpListIn] at h ⊢
    by_cases hw : Region.wanted o (yielded ops a.tmps) = true
    · rw [if_pos hw] at h ⊢
      exact oper_in (hd o (List.mem_cons_self ..)) (Oper.wp_mono (fun a w h => wpListIn_of hq r a w (fun o' ho' => hd o' (List.mem_cons_of_mem _ ho')) h) (h.resolve_right (fun hh => hq hh.2)))
    · rw [if_neg hw] at h ⊢
      exact ⟨fun _ _ => trivial, wpListIn_of hq r _ w (fun o' ho' => hd o' (List.mem_cons_of_mem _ ho')) h⟩
/-- The law in a round. -/
theorem wpIn_region_tail {id : Nat} {G : Nat → Value → World → Prop} {a : Act} {w : World} (k : Nat) (hm : P.follows .mixedOrders = true) (hd : noDefer ops = true) (hq : ¬ LetsOut Q) (hok : regOk ops a.tmps.size = true) (hk : ops.size = k + 1) (hlb : lastT ops k = true)
    (hst : ∀ i v W W', G i v W → Ch no W W' → G i v W') (hobl : Obls (fun _ => no) P ops G a w.drew 0 (ops.toList.take k))
    (hlast : ∀ (vs : Nat → Value) (W : World), Ch no w.drew W → (∀ i, i < k → G i (vs i) W) → wpList P ops Q (ops.toList.drop k) { a with tmps := fill (ops.toList.take k) 0 vs a.tmps } W) :
    (Code.region id ops true).wpIn (Fence.wide.inRound l) n P Q a w :=
  wpIn_region_any hm (wpAny_in hd hq _ _ _ _ (any_tail k hok hk hlb hst hobl hlast))
end

/-- A value that is good for something that stays while nothing that was there turns. -/
structure Gd where
  p : Value → World → Prop
  st : ∀ v w w', p v w → Ch no w w' → p v w'
/-- A value that is known. -/
def Gd.is (u : Value) : Gd := ⟨fun v _ => v = u, fun _ _ _ h _ => h⟩
def gds (L : List Gd) (i : Nat) (v : Value) (w : World) : Prop := match L[i]? with | some g => g.p v w | none => True
theorem gds_st {L : List Gd} (i : Nat) (v : Value) (w w' : World) (h : gds L i v w) (hc : Ch no w w') : gds L i v w' := by
  unfold gds at *
  cases hi : L[i]? with
  | none => trivial
  | some g => rw [hi] at h; exact g.st v w w' h hc
theorem gds_is {L : List Gd} {i : Nat} {u v : Value} {w : World} (h : L[i]? = some (Gd.is u)) (e : v = u) : gds L i v w := by
  unfold gds; rw [h]; exact e
theorem gds_at {L : List Gd} {i : Nat} {u v : Value} {w : World} (h : L[i]? = some (Gd.is u)) (e : gds L i v w) : v = u := by
  unfold gds at e; rw [h] at e; exact e
theorem gds_mk {L : List Gd} {i : Nat} {g : Gd} {v : Value} {w : World} (h : L[i]? = some g) (e : g.p v w) : gds L i v w := by
  unfold gds; rw [h]; exact e
theorem gds_get {L : List Gd} {i : Nat} {g : Gd} {v : Value} {w : World} (h : L[i]? = some g) (e : gds L i v w) : g.p v w := by
  unfold gds at e; rw [h] at e; exact e

end Go.Proofs.YtekeiieefkgopaaDoor.Mt
