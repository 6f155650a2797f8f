/- A region that draws its order, each of whose operations leaves what was there as it was: one obligation an operation, whatever the order. -/
import Derived.Orders
import Derived.Tactics
import Derived.KernelRfl
import Derived.Test.YtekeiieefkgopaaDoorAa
namespace Go.Proofs.YtekeiieefkgopaaDoor.Mr
open Go Go.Proofs.YtekeiieefkgopaaDoor.Aa

/-- The temporaries with all values of a region's operations in them. -/
def fill : List Oper → Nat → (Nat → Value) → Array Value → Array Value
  | [], _, _, t => t
  | o :: r, i, vs, t => fill r (i + 1) vs (match o.dst with | some d => t.setIfInBounds d (vs i) | none => t)
/-- What an operation has left in its temporary. -/
def valOf (o : Oper) (a : Act) : Value := match o.dst with | some d => a.tmps.getD d undef | none => undef
/-- The looks at a region that the law leans on, for the kernel. -/
def regOk (ops : Array Oper) (n : Nat) : Bool :=
  (List.range ops.size).all fun i => match ops[i]? with
    | none => true
    | some oi =>
      (match oi.dst with | some d => decide (d < n) && (List.range ops.size).all (fun j => j == i || ((ops[j]?).bind (·.dst)) != some d) | none => true) &&
      (oi.looksAt ops).all (fun t => (List.range ops.size).all fun j => ((ops[j]?).bind (·.dst)) != some t || oi.after.any (fun e => e.on == j && Region.binds .any e)) &&
      (match oi.op with | .select .. => false | _ => true) && oi.after.all fun e => !Region.binds .any e || decide (e.on < i)

theorem fill_size (l : List Oper) : ∀ (i : Nat) (vs : Nat → Value) (t : Array Value), (fill l i vs t).size = t.size := by
  induction l with
  | nil => intro i vs t; rfl
  | cons o r ih => intro i vs t; simp only [fill]; rw [ih]; cases o.dst <;> simp
theorem fill_other (l : List Oper) (d : Nat) : ∀ (i : Nat) (vs : Nat → Value) (t : Array Value), (∀ o ∈ l, o.dst ≠ some d) → (fill l i vs t)[d]? = t[d]? := by
  induction l with
  | nil => intro i vs t _; rfl
  | cons o r ih =>
    intro i vs t h
    simp only [fill]
    rw [ih _ _ _ (fun o' ho' => h o' (List.mem_cons_of_mem _ ho'))]
    have := h o (List.mem_cons_self ..)
    cases hd : o.dst with
    | none => rfl
    | some e => simp only []; rw [Array.getElem?_setIfInBounds_ne]; intro he; exact this (by rw [hd, he])
theorem fill_at (l : List Oper) (d : Nat) : ∀ (i k : Nat) (vs : Nat → Value) (t : Array Value) (o : Oper), l[k]? = some o → o.dst = some d → d < t.size → (∀ j o', l[j]? = some o' → o'.dst = some d → j = k) →
    (fill l i vs t)[d]? = some (vs (i + k)) := by
  induction l with
  | nil => intro i k vs t o h; simp at h
  | cons o r ih =>
    intro i k vs t o1 h hd hlt hu
    simp only [fill]
    cases k with
    | zero =>
      have e : o = o1 := by simpa using h
      subst e
      rw [fill_other r d]
      · simp only [hd]; simp [hlt]
      · intro o' ho' he
        obtain ⟨j, hj⟩ := List.getElem?_of_mem ho'
        have := hu (j + 1) o' (by simpa using hj) he
        omega
    | succ k =>
      have := ih (i + 1) k vs (match o.dst with | some d => t.setIfInBounds d (vs i) | none => t) o1 (by simpa using h) hd (by cases o.dst <;> simp [hlt])
        (fun j o' hj he => by have := hu (j + 1) o' (by simpa using hj) he; omega)
      rw [this]
      congr 2
      omega

section
variable {P : Program} {ops : Array Oper} {T : Nat → Nat → Prop}

/-- What is asked of an operation's end. -/
def Ends (T : Nat → Nat → Prop) (G : Nat → Value → World → Prop) (ds : List Deferred) (i : Nat) (o : Oper) (w : World) : Exit → Act → World → Prop :=
  fun e a' w' => e = .normal ∧ a'.defers = ds ∧ Ch (T i) w w' ∧ G i (valOf o a') w'
/-- One operation's obligation. -/
def Obl (T : Nat → Nat → Prop) (P : Program) (ops : Array Oper) (G : Nat → Value → World → Prop) (a : Act) (w : World) (i : Nat) (o : Oper) : Prop :=
  ∀ (vs : Nat → Value) (W : World), Ch no w W → (∀ e ∈ o.after.toList, Region.binds .any e = true → G e.on (vs e.on) W) →
    wpList P ops (Ends T G a.defers i o W) [o] { a with tmps := fill ops.toList 0 vs a.tmps } W
def Obls (T : Nat → Nat → Prop) (P : Program) (ops : Array Oper) (G : Nat → Value → World → Prop) (a : Act) (w : World) : Nat → List Oper → Prop
  | _, [] => True
  | i, o :: r => Obl T P ops G a w i o ∧ Obls T P ops G a w (i + 1) r
theorem Obls.get {G : Nat → Value → World → Prop} {a : Act} {w : World} (l : List Oper) : ∀ (k i : Nat) (o : Oper), Obls T P ops G a w k l → l[i]? = some o → Obl T P ops G a w (k + i) o := by
  induction l with
  | nil => intro k i o _ h; simp at h
  | cons x r ih =>
    intro k i o h hi
    cases i with
    | zero => have e : x = o := by simpa using hi
              subst e; exact h.1
    | succ i => have := ih (k + 1) i o h.2 (by simpa using hi)
                rwa [show k + 1 + i = k + (i + 1) from by omega] at this

/-- It waits for all others. -/
def lastB (ops : Array Oper) (i : Nat) : Bool := (List.range ops.size).all fun j => j == i || ((ops[i]?).any fun o => o.after.any fun e => e.on == j && Region.binds .any e)
theorem lastB_binds {i j : Nat} {o : Oper} (h : lastB ops i = true) (hj : j < ops.size) (hne : j ≠ i) (ho : ops[i]? = some o) : ∃ e ∈ o.after, e.on = j ∧ Region.binds .any e = true := by
  have h1 := List.all_eq_true.1 h j (List.mem_range.2 hj)
  simp only [ho, Option.any_some, Bool.or_eq_true, beq_iff_eq] at h1
  rcases h1 with h1 | h1
  · exact absurd h1 hne
  · obtain ⟨k, hk, hb⟩ := Array.any_eq_true.1 h1
    simp only [Bool.and_eq_true, beq_iff_eq] at hb
    exact ⟨o.after[k], Array.getElem_mem _, hb.1, hb.2⟩
/-- What is known between two operations. -/
structure Mid (T : Nat → Nat → Prop) (ops : Array Oper) (G : Nat → Value → World → Prop) (a : Act) (w : World) (listed : Array Bool) (vs : Nat → Value) (a' : Act) (W : World) : Prop where
  defers : a'.defers = a.defers
  size : a'.tmps.size = a.tmps.size
  mine : ∀ i o d, ops[i]? = some o → o.dst = some d → listed.getD i false = true → a'.tmps[d]? = some (vs i)
  rest : ∀ t, (∀ i o, ops[i]? = some o → o.dst = some t → listed.getD i false = false) → a'.tmps[t]? = a.tmps[t]?
  goods : ∀ i o, ops[i]? = some o → listed.getD i false = true → G i (vs i) W
  closed : ∀ j o, ops[j]? = some o → listed.getD j false = true → ∀ e ∈ o.after, Region.binds .any e = true → listed.getD e.on false = true
  ch : Ch (fun k => ∃ i, T i k) w W
  still : (∀ i o, ops[i]? = some o → lastB ops i = true → listed.getD i false = false) → Ch no w W

theorem ok_dst (n : Nat) (h : regOk ops n = true) {i : Nat} {o : Oper} {d : Nat} (hi : ops[i]? = some o) (hd : o.dst = some d) : d < n ∧ ∀ j o', ops[j]? = some o' → o'.dst = some d → j = i := by
  unfold regOk at h
  have hlt := (Array.getElem?_eq_some_iff.1 hi).1
  have h1 := List.all_eq_true.1 h i (List.mem_range.2 hlt)
  simp only [hi, hd, Bool.and_eq_true] at h1
  obtain ⟨⟨⟨⟨h2, h3⟩, _⟩, _⟩, _⟩ := h1
  refine ⟨of_decide_eq_true h2, fun j o' hj hd' => ?_⟩
  have hjl := (Array.getElem?_eq_some_iff.1 hj).1
  have h4 := List.all_eq_true.1 h3 j (List.mem_range.2 hjl)
  simp only [hj, Option.bind_some, hd', Bool.or_eq_true, beq_iff_eq, bne_iff_ne, ne_eq, not_true_eq_false, or_false] at h4
  exact h4
theorem ok_looks (n : Nat) (h : regOk ops n = true) {i : Nat} {o : Oper} (hi : ops[i]? = some o) {t : Nat} (ht : t ∈ o.looksAt ops) {j : Nat} {o' : Oper} (hj : ops[j]? = some o') (hd : o'.dst = some t) :
    ∃ e ∈ o.after, e.on = j ∧ Region.binds .any e = true := by
  unfold regOk at h
  have hlt := (Array.getElem?_eq_some_iff.1 hi).1
  have h1 := List.all_eq_true.1 h i (List.mem_range.2 hlt)
  simp only [hi, Bool.and_eq_true] at h1
  obtain ⟨⟨⟨_, h3⟩, _⟩, _⟩ := h1
  have hjl := (Array.getElem?_eq_some_iff.1 hj).1
  have h4 := List.all_eq_true.1 (List.all_eq_true.1 h3 t ht) j (List.mem_range.2 hjl)
  simp only [hj, Option.bind_some, hd, Bool.or_eq_true, bne_iff_ne, ne_eq, not_true_eq_false, false_or] at h4
  obtain ⟨k, hk, hb⟩ := Array.any_eq_true.1 h4
  simp only [Bool.and_eq_true, beq_iff_eq] at hb
  exact ⟨o.after[k], Array.getElem_mem _, hb.1, hb.2⟩
theorem ok_sel (n : Nat) (h : regOk ops n = true) {i : Nat} {o : Oper} (hi : ops[i]? = some o) : ∀ cs b, o.op ≠ .select cs b := by
  unfold regOk at h
  have hlt := (Array.getElem?_eq_some_iff.1 hi).1
  have h1 := List.all_eq_true.1 h i (List.mem_range.2 hlt)
  simp only [hi, Bool.and_eq_true] at h1
  intro cs b he
  rw [he] at h1
  simp at h1

theorem ok_after (n : Nat) (h : regOk ops n = true) {i : Nat} {o : Oper} (hi : ops[i]? = some o) : ∀ e ∈ o.after, Region.binds .any e = true → e.on < i := by
  unfold regOk at h
  have hlt := (Array.getElem?_eq_some_iff.1 hi).1
  have h1 := List.all_eq_true.1 h i (List.mem_range.2 hlt)
  simp only [hi, Bool.and_eq_true] at h1
  intro e he hb
  obtain ⟨k, hk, rfl⟩ := Array.getElem_of_mem he
  have := Array.all_eq_true.1 h1.2 k hk
  simpa [hb] using this

theorem put_val {o : Oper} {a : Act} {v : Value} (h : ∀ d, o.dst = some d → d < a.tmps.size) : valOf o (a.put o.dst v) = (match o.dst with | some _ => v | none => undef) := by
  unfold valOf Act.put
  cases hd : o.dst with
  | none => rfl
  | some d => simp [h d hd]

/-- One operation, seen from another frame that agrees with the first one where it looks. -/
theorem wpOp_moved {G : Nat → Value → World → Prop} {Q : Exit → Act → World → Prop} {i : Nat} {o : Oper} {a b : Act} {w : World} (hi : ops[i]? = some o) (hs : ∀ cs b, o.op ≠ .select cs b)
    (hx : ∀ x ∈ o.op.operands, a.eval x = b.eval x) (hw : Region.wanted o (yielded ops a.tmps) = Region.wanted o (yielded ops b.tmps))
    (hda : ∀ d, o.dst = some d → d < a.tmps.size)
    (h : wpList P ops (Ends T G a.defers i o w) [o] a w) {K : Act → World → Prop}
    (hK : ∀ v w', Ch (T i) w w' → G i (match o.dst with | some _ => v | none => undef) w' → K (b.put o.dst v) w') : wpOp P ops Q i K b w := by
  unfold wpOp
  simp only [hi]
  simp only [wpList] at h
  rw [← hw]
  split at h
  · rename_i hwt
    rw [if_pos hwt]
    rcases h with h | ⟨_, a1, w1, h⟩
    · refine .inl ?_
      unfold Oper.wp at *
      rw [execOp_congr o hs hx] at h
      generalize (execOp b.eval o).run P w = r at *
      have hv : ∀ v w', (Ends T G a.defers i o w) .normal (a.put o.dst v) w' → K (b.put o.dst v) w' := fun v w' he => hK v w' he.2.2.1 (by have := he.2.2.2; rwa [put_val hda] at this)
      have hdf : ∀ (d : Deferred) (v : Value) w', ¬ (Ends T G a.defers i o w) .normal ({ a with defers := d :: a.defers }.put o.dst v) w' := fun d v w' he => by
        have h1 := he.2.1
        have h2 : ({ a with defers := d :: a.defers }.put o.dst v).defers = d :: a.defers := by cases o.dst <;> rfl
        rw [h2] at h1
        have := congrArg List.length h1
        simp at this
      cases r with
      | ok n w' =>
        cases n <;> simp only [Oper.upon] at h ⊢ <;>
          first
            | exact hv _ _ h
            | exact absurd h (hdf _ _ _)
            | exact Calls.mono h (fun e w'' he => by cases e <;> first | exact hv _ _ he | (exact absurd he.1 (by simp)) | (obtain ⟨_, _, he⟩ := he; exact absurd he.1 (by simp)))
            | exact Rows.mono h (fun _ _ he => hv _ _ he)
      | halt x w' => cases x <;> simp only [Oper.upon] at h ⊢ <;> exact absurd h.1 (by simp)
    · exact absurd h.1 (by simp)
  · rename_i hwt
    rw [if_neg hwt]
    refine hK undef w h.2.2.1 ?_
    have := h.2.2.2
    rwa [put_val hda] at this

/-- The frames agree where an operation looks that may come next. -/
theorem Mid.agree {G : Nat → Value → World → Prop} {a a' : Act} {w W : World} {listed : Array Bool} {vs : Nat → Value} (hok : regOk ops a.tmps.size = true) (hm : Mid T ops G a w listed vs a' W)
    {i : Nat} {o : Oper} (hi : ops[i]? = some o) (hr : ∀ e ∈ o.after, Region.binds .any e = true → listed.getD e.on false = true) {t : Nat} (ht : t ∈ o.looksAt ops) :
    (fill ops.toList 0 vs a.tmps)[t]? = a'.tmps[t]? := by
  by_cases hw : ∃ (j : Nat) (o' : Oper), ops[j]? = some o' ∧ o'.dst = some t
  · obtain ⟨j, o', hj, hd⟩ := hw
    obtain ⟨e, he, hej, heb⟩ := ok_looks _ hok hi ht hj hd
    have hl := hr e he heb
    rw [hej] at hl
    obtain ⟨hlt, huniq⟩ := ok_dst _ hok hj hd
    rw [hm.mine j o' t hj hd hl, fill_at ops.toList t 0 j vs a.tmps o' (by rw [Array.getElem?_toList]; exact hj) hd hlt (fun k o2 hk hd2 => huniq k o2 (by rw [Array.getElem?_toList] at hk; exact hk) hd2)]
    simp
  · rw [hm.rest t (fun k o2 hk hd2 => absurd ⟨k, o2, hk, hd2⟩ hw), fill_other]
    intro o' ho' hd
    obtain ⟨j, hj⟩ := List.getElem?_of_mem ho'
    exact hw ⟨j, o', by rw [Array.getElem?_toList] at hj; exact hj, hd⟩

theorem filter_le {α : Type} (l : List α) (p p' : α → Bool) (h : ∀ x ∈ l, p' x = true → p x = true) : (l.filter p').length ≤ (l.filter p).length := by
  induction l with
  | nil => simp
  | cons y r ih =>
    have := ih (fun x hx => h x (List.mem_cons_of_mem _ hx))
    have hy := h y (List.mem_cons_self ..)
    simp only [List.filter_cons]
    cases h1 : p' y
    · cases h2 : p y <;> simp <;> omega
    · rw [hy h1]; simp; omega
theorem filter_lt {α : Type} (l : List α) (p p' : α → Bool) (h : ∀ x ∈ l, p' x = true → p x = true) {x : α} (hx : x ∈ l) (h1 : p x = true) (h2 : p' x = false) : (l.filter p').length < (l.filter p).length := by
  induction l with
  | nil => simp at hx
  | cons y r ih =>
    have hle := filter_le r p p' (fun x hx => h x (List.mem_cons_of_mem _ hx))
    have hy := h y (List.mem_cons_self ..)
    simp only [List.filter_cons]
    rcases List.mem_cons.1 hx with rfl | hx'
    · rw [h1, h2]; simp; omega
    · have := ih (fun x hx => h x (List.mem_cons_of_mem _ hx)) hx'
      cases h3 : p' y
      · cases h4 : p y <;> simp <;> omega
      · rw [hy h3]; simp; omega

/-- All have come: the frame is the filled one. -/
theorem Mid.done {G : Nat → Value → World → Prop} {a a' : Act} {w W : World} {listed : Array Bool} {vs : Nat → Value} (hok : regOk ops a.tmps.size = true) (hm : Mid T ops G a w listed vs a' W)
    (hall : ∀ i, i < ops.size → listed.getD i false = true) : a' = { a with tmps := fill ops.toList 0 vs a.tmps } := by
  have ht : a'.tmps = fill ops.toList 0 vs a.tmps := by
    apply Array.ext_getElem?
    intro t
    by_cases hw : ∃ (j : Nat) (o' : Oper), ops[j]? = some o' ∧ o'.dst = some t
    · obtain ⟨j, o', hj, hd⟩ := hw
      obtain ⟨hlt, huniq⟩ := ok_dst _ hok hj hd
      rw [hm.mine j o' t hj hd (hall j (Array.getElem?_eq_some_iff.1 hj).1), fill_at ops.toList t 0 j vs a.tmps o' (by rw [Array.getElem?_toList]; exact hj) hd hlt (fun k o2 hk hd2 => huniq k o2 (by rw [Array.getElem?_toList] at hk; exact hk) hd2)]
      simp
    · rw [hm.rest t (fun k o2 hk hd2 => absurd ⟨k, o2, hk, hd2⟩ hw), fill_other]
      intro o' ho' hd
      obtain ⟨j, hj⟩ := List.getElem?_of_mem ho'
      exact hw ⟨j, o', by rw [Array.getElem?_toList] at hj; exact hj, hd⟩
  have hd := hm.defers
  cases a'
  simp only [Act.mk.injEq] at *
  exact ⟨ht, hd⟩

theorem getD_set (l : Array Bool) (i j : Nat) (hi : i < l.size) : (l.setIfInBounds i true).getD j false = if j = i then true else l.getD j false := by
  by_cases h : j = i
  · subst h; simp [Array.getD_eq_getD_getElem?, hi]
  · rw [if_neg h]
    simp [Array.getD_eq_getD_getElem?, Array.getElem?_setIfInBounds_ne (Ne.symm h)]

theorem region_orders {G : Nat → Value → World → Prop} {Q : Exit → Act → World → Prop} {a : Act} {w : World} (hok : regOk ops a.tmps.size = true)
    (hst : ∀ i v W W' k, lastB ops i = false → G i v W → Ch (T k) W W' → G i v W') (hTl : ∀ i, lastB ops i = false → ∀ k, ¬ T i k) (hobl : Obls T P ops G a w 0 ops.toList)
    (hfin : ∀ (vs : Nat → Value) (W : World), Ch (fun k => ∃ i, T i k) w W → (∀ i, i < ops.size → G i (vs i) W) → Q .normal { a with tmps := fill ops.toList 0 vs a.tmps } W) :
    ∀ (fuel : Nat) (listed : Array Bool) (vs : Nat → Value) (a' : Act) (W : World), listed.size = ops.size → Mid T ops G a w listed vs a' W →
      ((List.range ops.size).filter fun i => !listed.getD i false).length ≤ fuel → wpAny P .any ops Q fuel listed a' W := by
  have key : ∀ (listed : Array Bool) (vs : Nat → Value) (a' : Act) (W : World), listed.size = ops.size → Mid T ops G a w listed vs a' W → Region.ready .any ops listed = [] → Q .normal a' W := by
    intro listed vs a' W hsz hm hr
    have hall : ∀ n i, i < n → i < ops.size → listed.getD i false = true := by
      intro n
      induction n with
      | zero => intro i h; omega
      | succ n ih =>
        intro i h hi
        cases hl : listed.getD i false with
        | true => rfl
        | false =>
          exfalso
          have ho : ops[i]? = some ops[i] := Array.getElem?_eq_getElem hi
          have : i ∈ Region.ready .any ops listed := mem_ready.2 ⟨by
            rw [Array.getD_eq_getD_getElem?] at hl ⊢
            rw [Array.getElem?_eq_getElem (by omega)] at hl ⊢
            simpa using hl, _, ho, fun e he hb => ih e.on (by have := ok_after _ hok ho e he hb; omega) (by have := ok_after _ hok ho e he hb; omega)⟩
          rw [hr] at this
          simp at this
    rw [hm.done hok (fun i hi => hall (i + 1) i (by omega) hi)]
    exact hfin vs W hm.ch (fun i hi => hm.goods i _ (Array.getElem?_eq_getElem hi) (hall (i + 1) i (by omega) hi))
  intro fuel
  induction fuel with
  | zero =>
    intro listed vs a' W hsz hm hc
    have hr : Region.ready .any ops listed = [] := by
      rw [List.eq_nil_iff_forall_not_mem]
      intro i hi
      obtain ⟨h0, o, ho, _⟩ := mem_ready.1 hi
      have hlt := (Array.getElem?_eq_some_iff.1 ho).1
      have : i ∈ (List.range ops.size).filter fun i => !listed.getD i false := List.mem_filter.2 ⟨List.mem_range.2 hlt, by
        rw [Array.getD_eq_getD_getElem?] at h0 ⊢
        rw [Array.getElem?_eq_getElem (by omega)] at h0 ⊢
        simpa using h0⟩
      rw [List.length_eq_zero_iff.1 (Nat.le_zero.1 hc)] at this
      simp at this
    exact ⟨hr, key _ _ _ _ hsz hm hr⟩
  | succ fuel ih =>
    intro listed vs a' W hsz hm hc
    refine ⟨key _ _ _ _ hsz hm, fun i hi => ?_⟩
    obtain ⟨h0, o, ho, hr⟩ := mem_ready.1 hi
    have hlt := (Array.getElem?_eq_some_iff.1 ho).1
    have hf : listed.getD i false = false := by
      rw [Array.getD_eq_getD_getElem?] at h0 ⊢
      rw [Array.getElem?_eq_getElem (by omega)] at h0 ⊢
      simpa using h0
    have hob := Obls.get ops.toList 0 i o hobl (by rw [Array.getElem?_toList]; exact ho)
    rw [Nat.zero_add] at hob
    have hagree := fun t ht => hm.agree (t := t) hok ho hr ht
    have hnl : ∀ j o', ops[j]? = some o' → j ≠ i → lastB ops j = true → listed.getD j false = false := by
      intro j o' hj hji hlb
      cases hl : listed.getD j false with
      | false => rfl
      | true =>
        obtain ⟨e, he, hei, heb⟩ := lastB_binds hlb hlt (fun h => hji h.symm) hj
        have := hm.closed j o' hj hl e he heb
        rw [hei, hf] at this
        cases this
    have hnl : ∀ j o', ops[j]? = some o' → lastB ops j = true → listed.getD j false = false := fun j o' hj hlb => by
      by_cases hji : j = i
      · subst hji; exact hf
      · exact hnl j o' hj hji hlb
    refine wpOp_moved (G := G) (a := { a with tmps := fill ops.toList 0 vs a.tmps }) ho (ok_sel _ hok ho) ?_ ?_ ?_ (hob vs W (hm.still hnl) ?_) ?_
    · intro x hx
      cases x with
      | tmp t =>
        have := hagree t (List.mem_append_left _ (List.mem_filterMap.2 ⟨.tmp t, by simpa using hx, rfl⟩))
        simp only [Act.eval, Array.getD_eq_getD_getElem?, this]
      | const v => rfl
      | global g => rfl
      | func f => rfl
    · unfold Region.wanted
      cases hg : o.guard with
      | none => rfl
      | some gw =>
        obtain ⟨g, want⟩ := gw
        have hy : yielded ops (fill ops.toList 0 vs a.tmps) g = yielded ops a'.tmps g := by
          unfold yielded
          cases ht : (ops[g]?).bind (·.dst) with
          | none => rfl
          | some t =>
            have := hagree t (by simp [Oper.looksAt, hg, ht])
            simp only [Option.bind_some, this]
        simp only [hy]
    · intro d hd
      show d < (fill ops.toList 0 vs a.tmps).size
      rw [fill_size]
      exact (ok_dst _ hok ho hd).1
    · intro e he hb
      have hl := hr e (by simpa using he) hb
      have hlt2 := ok_after _ hok ho e (by simpa using he) hb
      exact hm.goods e.on _ (Array.getElem?_eq_getElem (by omega)) hl
    · intro v W' hc' hG
      refine ih (listed.setIfInBounds i true) (fun j => if j = i then (match o.dst with | some _ => v | none => undef) else vs j) _ W' (by simpa using hsz) ?_ ?_
      · have hsz' : (a'.put o.dst v).tmps.size = a'.tmps.size := by unfold Act.put; cases o.dst <;> simp
        have hput : ∀ t, o.dst ≠ some t → (a'.put o.dst v).tmps[t]? = a'.tmps[t]? := by
          intro t ht
          unfold Act.put
          cases hd : o.dst with
          | none => rfl
          | some d => simp only []; rw [Array.getElem?_setIfInBounds_ne]; intro e; exact ht (by rw [hd, e])
        refine ⟨?_, ?_, ?_, ?_, ?_, ?_, ?_, ?_⟩
        · rw [← hm.defers]; unfold Act.put; cases o.dst <;> rfl
        · rw [hsz', hm.size]
        · intro j o' d hj hd hl
          rw [getD_set _ _ _ (by omega)] at hl
          by_cases hji : j = i
          · subst hji
            have : o' = o := by rw [ho] at hj; exact (Option.some.inj hj).symm
            subst this
            have hdlt := (ok_dst _ hok ho hd).1
            unfold Act.put
            simp only [hd, if_true]
            rw [Array.getElem?_setIfInBounds_self_of_lt]
            rw [hm.size]; exact hdlt
          · rw [if_neg hji] at hl ⊢
            rw [hput d (fun he => hji ((ok_dst _ hok ho he).2 j o' hj hd))]
            exact hm.mine j o' d hj hd hl
        · intro t ht
          by_cases hti : o.dst = some t
          · have := ht i o ho hti
            rw [getD_set _ _ _ (by omega), if_pos rfl] at this
            simp at this
          · rw [hput t hti]
            refine hm.rest t (fun j o' hj hd => ?_)
            have := ht j o' hj hd
            rw [getD_set _ _ _ (by omega)] at this
            by_cases hji : j = i
            · subst hji; rw [if_pos rfl] at this; simp at this
            · rwa [if_neg hji] at this
        · intro j o' hj hl
          rw [getD_set _ _ _ (by omega)] at hl
          by_cases hji : j = i
          · subst hji
            simp only [if_true]
            exact hG
          · rw [if_neg hji] at hl ⊢
            cases hlb : lastB ops j with
            | false => exact hst _ _ _ _ _ hlb (hm.goods j o' hj hl) hc'
            | true =>
              obtain ⟨e, he, hei, heb⟩ := lastB_binds hlb hlt (fun h => hji h.symm) hj
              have := hm.closed j o' hj hl e he heb
              rw [hei, hf] at this
              cases this
        · intro j o' hj hl e he hb
          rw [getD_set _ _ _ (by omega)] at hl ⊢
          by_cases hej : e.on = i
          · rw [if_pos hej]
          · rw [if_neg hej]
            by_cases hji : j = i
            · subst hji
              have : o' = o := by rw [ho] at hj; exact (Option.some.inj hj).symm
              subst this
              exact hr e (by simpa using he) hb
            · rw [if_neg hji] at hl
              exact hm.closed j o' hj hl e he hb
        · exact hm.ch.same (hc'.mono (fun k hk => ⟨i, hk⟩))
        · intro hno
          have hli : lastB ops i = false := by
            cases hlb : lastB ops i with
            | false => rfl
            | true =>
              have := hno i o ho hlb
              rw [getD_set _ _ _ (by omega), if_pos rfl] at this
              cases this
          exact (hm.still hnl).then_ (hc'.mono (fun k hk => (hTl i hli k hk).elim))
      · refine Nat.le_of_lt_succ (Nat.lt_of_lt_of_le (filter_lt _ _ _ ?_ (List.mem_range.2 hlt) (x := i) ?_ ?_) hc)
        · intro j _ hj
          rw [getD_set _ _ _ (by omega)] at hj
          by_cases hji : j = i
          · subst hji; simp at hj
          · simpa [hji] using hj
        · simp [hf]
        · rw [getD_set _ _ _ (by omega)]; simp

/-- A region that draws its order, each of whose operations leaves what was there as it was: what each value is good for, one obligation an operation, and what follows with all of them. -/
theorem wp_region_orders_last {id : Nat} {G : Nat → Value → World → Prop} {Q : Exit → Act → World → Prop} {a : Act} {w : World} (hm : P.follows .mixedOrders = true) (hok : regOk ops a.tmps.size = true)
    (hst : ∀ i v W W' k, lastB ops i = false → G i v W → Ch (T k) W W' → G i v W') (hTl : ∀ i, lastB ops i = false → ∀ k, ¬ T i k) (hobl : Obls T P ops G a w.drew 0 ops.toList)
    (hfin : ∀ (vs : Nat → Value) (W : World), Ch (fun k => ∃ i, T i k) w.drew W → (∀ i, i < ops.size → G i (vs i) W) → Q .normal { a with tmps := fill ops.toList 0 vs a.tmps } W) :
    (Code.region id ops true).wp P Q a w := by
  refine wp_region_any hm ?_
  refine region_orders hok hst hTl hobl hfin ops.size (Array.replicate ops.size false) (fun _ => undef) a _ (by simp) ⟨rfl, rfl, ?_, fun _ _ => rfl, ?_, ?_, Ch.refl _ _, fun _ => Ch.refl _ _⟩ ?_
  · intro i o d _ _ h
    simp [Array.getD_eq_getD_getElem?, Array.getElem?_replicate] at h
    split at h <;> simp at h
  · intro i o _ h
    simp [Array.getD_eq_getD_getElem?, Array.getElem?_replicate] at h
    split at h <;> simp at h
  · intro i o _ h
    simp [Array.getD_eq_getD_getElem?, Array.getElem?_replicate] at h
    split at h <;> simp at h
  · exact Nat.le_trans (List.length_filter_le _ _) (by simp)

theorem wp_region_orders {id : Nat} {G : Nat → Value → World → Prop} {Q : Exit → Act → World → Prop} {a : Act} {w : World} (hm : P.follows .mixedOrders = true) (hok : regOk ops a.tmps.size = true)
    (hst : ∀ i v W W', G i v W → Ch no W W' → G i v W') (hobl : Obls (fun _ => no) P ops G a w.drew 0 ops.toList)
    (hfin : ∀ (vs : Nat → Value) (W : World), Ch no w.drew W → (∀ i, i < ops.size → G i (vs i) W) → Q .normal { a with tmps := fill ops.toList 0 vs a.tmps } W) :
    (Code.region id ops true).wp P Q a w :=
  wp_region_orders_last (T := fun _ => no) hm hok (fun i v W W' _ _ => hst i v W W') (fun _ _ _ h => h) hobl (fun vs W hc => hfin vs W (hc.mono (fun _ h => h.elim fun _ h => h)))

end
/-- What the values are good for, by a list. -/
def ofL (L : List (Value → World → Prop)) (i : Nat) (v : Value) (w : World) : Prop := (L.getD i (fun _ _ => True)) v w
/-- It stands while nothing that was there turns. -/
def Stb (g : Value → World → Prop) : Prop := ∀ v w w', g v w → Ch no w w' → g v w'
theorem Stb.is (u : Value) : Stb (fun v _ => v = u) := fun _ _ _ h _ => h
theorem ofL_st {L : List (Value → World → Prop)} (h : ∀ g ∈ L, Stb g) (i : Nat) (v : Value) (w w' : World) (hv : ofL L i v w) (hc : Ch no w w') : ofL L i v w' := by
  unfold ofL at *
  rw [List.getD_eq_getElem?_getD] at *
  cases hi : L[i]? with
  | none => trivial
  | some g =>
    rw [hi] at hv
    exact h g (List.mem_of_getElem? hi) v w w' hv hc

def StbT (T : Nat → Prop) (g : Value → World → Prop) : Prop := ∀ v w w', g v w → Ch T w w' → g v w'
theorem StbT.is (T : Nat → Prop) (u : Value) : StbT T (fun v _ => v = u) := fun _ _ _ h _ => h
theorem ofL_stT {T : Nat → Prop} {L : List (Value → World → Prop)} (h : ∀ g ∈ L, StbT T g) (i : Nat) (v : Value) (w w' : World) (hv : ofL L i v w) (hc : Ch T w w') : ofL L i v w' := by
  unfold ofL at *
  rw [List.getD_eq_getElem?_getD] at *
  cases hi : L[i]? with
  | none => trivial
  | some g =>
    rw [hi] at hv
    exact h g (List.mem_of_getElem? hi) v w w' hv hc
theorem ofL_stL {T : Nat → Nat → Prop} {ops : Array Oper} {L : List (Value → World → Prop)} {k : Nat} (h : ∀ g ∈ L.take k, ∀ q, StbT (T q) g) (hL : L.length = k + 1) (hk : lastB ops k = true) (i : Nat) (v : Value) (w w' : World) (q : Nat) (hl : lastB ops i = false) (hv : ofL L i v w) (hc : Ch (T q) w w') : ofL L i v w' := by
  rcases Nat.lt_trichotomy i k with hlt | rfl | hgt
  · have e : L[i]? = some (L[i]'(by omega)) := List.getElem?_eq_getElem (by omega)
    unfold ofL at hv ⊢
    rw [List.getD_eq_getElem?_getD, e] at hv ⊢
    exact h (L[i]'(by omega)) (List.mem_of_getElem? (i := i) (by rw [List.getElem?_take_of_lt hlt]; exact e)) q v w w' hv hc
  · rw [hk] at hl; cases hl
  · unfold ofL
    rw [List.getD_eq_getElem?_getD, List.getElem?_eq_none (by omega)]
    trivial

end Go.Proofs.YtekeiieefkgopaaDoor.Mr
