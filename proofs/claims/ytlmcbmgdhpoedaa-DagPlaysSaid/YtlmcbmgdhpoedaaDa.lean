/- A graph of ids: what it holds, and what its functions answer, in plain Lean. -/
import GoSem.Claim
namespace Go.Proofs.Ytlmcbmgdhpoedaa.Da
set_option linter.unusedVariables false
set_option linter.unusedSimpArgs false

abbrev Nm := ByteArray
instance decMem (x : Nm) (l : List Nm) : Decidable (x ∈ l) := decidable_of_iff (l.any (fun y => decide (y = x)) = true) (by simp)
/-- Not greater. -/
def le (a b : Nm) : Bool := decide (a.data.toList ≤ b.data.toList)
theorem le_total (a b : Nm) : le a b = true ∨ le b a = true := by
  simp only [le, decide_eq_true_eq]; exact List.le_total _ _
theorem le_trans {a b c : Nm} (h : le a b = true) (k : le b c = true) : le a c = true := by
  simp only [le, decide_eq_true_eq] at *; exact List.le_trans h k
theorem le_refl (a : Nm) : le a a = true := by simp only [le, decide_eq_true_eq]; exact List.le_refl _
theorem ext_list {a b : Nm} (h : a.data.toList = b.data.toList) : a = b := ByteArray.ext (Array.toList_inj.1 h)
theorem le_anti {a b : Nm} (h : le a b = true) (k : le b a = true) : a = b := by
  simp only [le, decide_eq_true_eq] at *; exact ext_list (List.le_antisymm h k)

/-- Sorted. -/
def put (x : Nm) : List Nm → List Nm
  | [] => [x]
  | y :: r => if le x y then x :: y :: r else y :: put x r
def srt : List Nm → List Nm
  | [] => []
  | x :: r => put x (srt r)
theorem put_perm (x : Nm) (l : List Nm) : (put x l).Perm (x :: l) := by
  induction l with
  | nil => exact List.Perm.refl _
  | cons y r ih =>
    unfold put
    split
    · exact List.Perm.refl _
    · exact (List.Perm.cons y ih).trans (List.Perm.swap x y r)
theorem srt_perm (l : List Nm) : (srt l).Perm l := by
  induction l with
  | nil => exact List.Perm.refl _
  | cons x r ih => exact (put_perm x _).trans (List.Perm.cons x ih)
theorem mem_srt {x : Nm} {l : List Nm} : x ∈ srt l ↔ x ∈ l := (srt_perm l).mem_iff
theorem put_sorted (x : Nm) (l : List Nm) (h : l.Pairwise (fun a b => le a b = true)) : (put x l).Pairwise (fun a b => le a b = true) := by
  induction l with
  | nil => simp [put]
  | cons y r ih =>
    rw [List.pairwise_cons] at h
    unfold put
    split
    · rename_i hxy
      rw [List.pairwise_cons]
      refine ⟨fun z hz => ?_, List.pairwise_cons.2 h⟩
      rcases List.mem_cons.1 hz with rfl | hz
      · exact hxy
      · exact le_trans hxy (h.1 z hz)
    · rename_i hxy
      rw [List.pairwise_cons]
      refine ⟨fun z hz => ?_, ih h.2⟩
      rcases List.mem_cons.1 ((put_perm x r).mem_iff.1 hz) with rfl | hz
      · rcases le_total z y with h1 | h1
        · exact absurd h1 hxy
        · exact h1
      · exact h.1 z hz
theorem srt_sorted (l : List Nm) : (srt l).Pairwise (fun a b => le a b = true) := by
  induction l with
  | nil => simp [srt]
  | cons x r ih => exact put_sorted x _ ih
/-- Sorted, and of the same: the same. -/
theorem sorted_unique {l m : List Nm} (hl : l.Pairwise (fun a b => le a b = true)) (hm : m.Pairwise (fun a b => le a b = true)) (hp : l.Perm m) : l = m :=
  List.Perm.eq_of_pairwise (le := fun a b => le a b = true) (fun a b _ _ h1 h2 => le_anti h1 h2) hl hm hp
theorem srt_of_perm {l m : List Nm} (h : l.Perm m) : srt l = srt m := sorted_unique (srt_sorted l) (srt_sorted m) (((srt_perm l).trans h).trans (srt_perm m).symm)
theorem srt_length (l : List Nm) : (srt l).length = l.length := (srt_perm l).length_eq

/-- Each once: what is like the one ahead of it is left out. -/
def uniqP : Option Nm → List Nm → List Nm
  | _, [] => []
  | p, x :: r => if p = some x then uniqP p r else x :: uniqP (some x) r
def uniq (l : List Nm) : List Nm := uniqP none l
theorem mem_uniqP {x : Nm} (l : List Nm) : ∀ p : Option Nm, (x ∈ uniqP p l ∨ p = some x) ↔ (x ∈ l ∨ p = some x) := by
  induction l with
  | nil => intro p; simp [uniqP]
  | cons y r ih =>
    intro p
    unfold uniqP
    split
    · rename_i h
      subst h
      rw [ih]
      simp only [List.mem_cons, Option.some.injEq]
      constructor
      · rintro (h | h)
        · exact .inl (.inr h)
        · exact .inr h
      · rintro ((h | h) | h)
        · exact .inr h.symm
        · exact .inl h
        · exact .inr h
    · have h1 := ih (some y)
      simp only [Option.some.injEq] at h1
      simp only [List.mem_cons]
      constructor
      · rintro ((rfl | h) | h)
        · exact .inl (.inl rfl)
        · rcases h1.1 (.inl h) with h2 | h2
          · exact .inl (.inr h2)
          · exact .inl (.inl h2.symm)
        · exact .inr h
      · rintro ((rfl | h) | h)
        · exact .inl (.inl rfl)
        · rcases h1.2 (.inl h) with h2 | h2
          · exact .inl (.inr h2)
          · exact .inl (.inl h2.symm)
        · exact .inr h
theorem mem_uniq {x : Nm} {l : List Nm} : x ∈ uniq l ↔ x ∈ l := by
  have := mem_uniqP (x := x) l none
  simpa [uniq] using this
theorem uniqP_length (l : List Nm) : ∀ p, (uniqP p l).length ≤ l.length := by
  induction l with
  | nil => intro p; simp [uniqP]
  | cons y r ih =>
    intro p
    unfold uniqP
    split
    · have := ih p; simp only [List.length_cons]; omega
    · have := ih (some y); simp only [List.length_cons]; omega
theorem uniq_length (l : List Nm) : (uniq l).length ≤ l.length := uniqP_length l none
theorem uniqP_snoc (l : List Nm) (x : Nm) : ∀ p, uniqP p (l ++ [x]) = uniqP p l ++ (if l.getLast?.or p = some x then [] else [x]) := by
  induction l with
  | nil =>
    intro p
    by_cases h : p = some x <;> simp [uniqP, h]
  | cons y r ih =>
    intro p
    rw [List.cons_append]
    have e : (y :: r).getLast?.or p = r.getLast?.or (some y) := by
      cases r with
      | nil => simp
      | cons z s => rw [List.getLast?_cons_cons]; cases h : (z :: s).getLast? with
        | none => simp at h
        | some u => simp
    rw [e]
    unfold uniqP
    split
    · rename_i h
      rw [ih, h]
    · rw [ih, List.cons_append]
/-- A graph: who is in, in the order of coming in, with parents and level; who waits, with parents. -/
structure Gr where
  ins : List (Nm × List Nm × Nat)
  waits : List (Nm × List Nm)
  deriving DecidableEq
def Gr.new : Gr := ⟨[], []⟩
def Gr.ids (d : Gr) : List Nm := d.ins.map (·.1)
def Gr.wids (d : Gr) : List Nm := d.waits.map (·.1)
def Gr.has (d : Gr) (x : Nm) : Bool := decide (x ∈ d.ids)
def Gr.hasW (d : Gr) (x : Nm) : Bool := decide (x ∈ d.wids)
/-- What a list of entries tells of a key. -/
def get {β : Type} (l : List (Nm × β)) (x : Nm) : Option β := (l.find? (fun p => decide (p.1 = x))).map (·.2)
def Gr.par (d : Gr) (x : Nm) : List Nm := ((get d.ins x).map (·.1)).getD []
def Gr.lev (d : Gr) (x : Nm) : Nat := ((get d.ins x).map (·.2)).getD 0
def Gr.wpar (d : Gr) (x : Nm) : List Nm := (get d.waits x).getD []
def Gr.ready (d : Gr) (ps : List Nm) : Bool := ps.all d.has
def Gr.top (d : Gr) (ps : List Nm) : Nat := ps.foldl (fun l p => max l (d.lev p + 1)) 0
def Gr.enter (d : Gr) (x : Nm) (ps : List Nm) : Gr := ⟨d.ins ++ [(x, ps, d.top ps)], d.waits.filter (fun p => decide (p.1 ≠ x))⟩
/-- The first that waits, by rising ids, whose parents are in. -/
def Gr.first (d : Gr) : Option Nm := (srt d.wids).find? (fun x => d.ready (d.wpar x))
def settleAll : Nat → Gr → List Nm → Gr × List Nm
  | 0, d, out => (d, out)
  | n + 1, d, out => match d.first with
    | none => (d, out)
    | some x => settleAll n (d.enter x (d.wpar x)) (out ++ [x])
def Gr.known (d : Gr) (x : Nm) : Bool := d.hasW x || d.has x
def Gr.add (d : Gr) (x : Nm) (ps : List Nm) : Gr × List Nm :=
  if d.known x then (d, []) else
  if d.ready (uniq (srt ps)) then settleAll d.waits.length (d.enter x (uniq (srt ps))) [x] else (⟨d.ins, d.waits ++ [(x, uniq (srt ps))]⟩, [])
def Gr.allIds (d : Gr) : List Nm := srt d.ids
def Gr.waiting (d : Gr) : List Nm := srt d.wids
/-- Those that they wait for, each once. -/
def lackL (d : Gr) : List Nm → List Nm → List Nm
  | acc, [] => acc
  | acc, p :: r => lackL d (if d.known p || decide (p ∈ acc) then acc else acc ++ [p]) r
def Gr.lacks (d : Gr) : List Nm := srt (lackL d [] (d.waits.flatMap (·.2)))
def Gr.parents (d : Gr) (x : Nm) : List Nm := d.par x
def Gr.level (d : Gr) (x : Nm) : Int := if d.has x then (d.lev x : Int) else -1
/-- Those on which none stands. -/
def Gr.heads (d : Gr) : List Nm := srt (d.ids.filter (fun x => !(d.ins.any (fun e => decide (x ∈ e.2.1)))))
/-- One stands on the other one. -/
inductive Gr.Reach (d : Gr) : Nm → Nm → Prop where
  | refl (x : Nm) : Gr.Reach d x x
  | step {x p y : Nm} : p ∈ d.par x → Gr.Reach d p y → Gr.Reach d x y
/-- Nodes are added. -/
def addAll (d : Gr) (l : List (Nm × List Nm)) : Gr := l.foldl (fun d p => (d.add p.1 p.2).1) d

theorem get_none {β : Type} {l : List (Nm × β)} {x : Nm} : get l x = none ↔ x ∉ l.map (·.1) := by
  unfold get
  simp only [Option.map_eq_none_iff, List.find?_eq_none, decide_eq_true_eq, List.mem_map, not_exists, not_and]
theorem get_some_mem {β : Type} {l : List (Nm × β)} {x : Nm} {v : β} (h : get l x = some v) : (x, v) ∈ l := by
  unfold get at h
  rw [Option.map_eq_some_iff] at h
  obtain ⟨p, hp, rfl⟩ := h
  have h1 := List.mem_of_find?_eq_some hp
  have h2 := List.find?_some hp
  simp only [decide_eq_true_eq] at h2
  subst h2
  exact h1
theorem get_of_mem {β : Type} {l : List (Nm × β)} (hu : (l.map (·.1)).Nodup) {x : Nm} {v : β} (h : (x, v) ∈ l) : get l x = some v := by
  induction l with
  | nil => simp at h
  | cons p r ih =>
    rw [List.map_cons, List.nodup_cons] at hu
    unfold get
    rw [List.find?_cons]
    rcases List.mem_cons.1 h with rfl | h'
    · simp
    · have hne : ¬ p.1 = x := fun e => hu.1 (List.mem_map.2 ⟨(x, v), h', e.symm⟩)
      simp only [hne, decide_false, Bool.false_eq_true, ↓reduceIte]
      exact ih hu.2 h'
theorem get_append {β : Type} (l m : List (Nm × β)) (x : Nm) : get (l ++ m) x = (get l x).or (get m x) := by
  unfold get
  rw [List.find?_append]
  cases List.find? (fun p => decide (p.1 = x)) l <;> simp

/-- How great a graph may be for the walk. -/
structure Fine (d : Gr) (n : Nat) : Prop where
  many : d.ins.length + d.waits.length ≤ n
  lev : ∀ e ∈ d.ins, e.2.2 < d.ins.length
  idz : ∀ e ∈ d.ins, e.1.size ≤ 1000
  pl : ∀ e ∈ d.ins, e.2.1.length ≤ 1000
  pz : ∀ e ∈ d.ins, ∀ p ∈ e.2.1, p.size ≤ 1000
  widz : ∀ e ∈ d.waits, e.1.size ≤ 1000
  wpl : ∀ e ∈ d.waits, e.2.length ≤ 1000
  wpz : ∀ e ∈ d.waits, ∀ p ∈ e.2, p.size ≤ 1000
  nd : d.ids.Nodup
  wnd : d.wids.Nodup
  apart : ∀ x, x ∈ d.ids → x ∈ d.wids → False

theorem Fine.mono {d : Gr} {n m : Nat} (h : Fine d n) (hm : n ≤ m) : Fine d m := { h with many := Nat.le_trans h.many hm }
theorem Fine.new : Fine Gr.new 0 := ⟨by simp [Gr.new], by simp [Gr.new], by simp [Gr.new], by simp [Gr.new], by simp [Gr.new], by simp [Gr.new], by simp [Gr.new], by simp [Gr.new], by simp [Gr.new, Gr.ids], by simp [Gr.new, Gr.wids], by simp [Gr.new, Gr.ids]⟩

theorem lev_bound {d : Gr} {n : Nat} (h : Fine d n) (p : Nm) : d.lev p < d.ins.length ∨ d.lev p = 0 := by
  unfold Gr.lev
  cases hg : get d.ins p with
  | none => right; rfl
  | some v => left; exact h.lev _ (get_some_mem hg)
theorem lev_le {d : Gr} {n : Nat} (h : Fine d n) (p : Nm) : d.lev p ≤ d.ins.length := by
  rcases lev_bound h p with h | h <;> omega
theorem lev_lt {d : Gr} {n : Nat} (h : Fine d n) {p : Nm} (hp : d.has p = true) : d.lev p < d.ins.length := by
  have hm : p ∈ d.ids := by simpa [Gr.has] using hp
  unfold Gr.lev
  cases hg : get d.ins p with
  | none => exact absurd hm (get_none.1 hg)
  | some v => exact h.lev _ (get_some_mem hg)
theorem foldl_max_le {d : Gr} {N : Nat} (ps : List Nm) (h : ∀ p ∈ ps, d.lev p + 1 ≤ N) (l : Nat) (hl : l ≤ N) : ps.foldl (fun l p => max l (d.lev p + 1)) l ≤ N := by
  induction ps generalizing l with
  | nil => exact hl
  | cons p r ih =>
    rw [List.foldl_cons]
    exact ih (fun q hq => h q (List.mem_cons_of_mem _ hq)) _ (Nat.max_le.2 ⟨hl, h p (List.mem_cons_self ..)⟩)
theorem top_le {d : Gr} {n : Nat} (h : Fine d n) {ps : List Nm} (hr : d.ready ps = true) : d.top ps ≤ d.ins.length := by
  unfold Gr.top
  refine foldl_max_le ps (fun p hp => ?_) 0 (by omega)
  have := lev_lt h (List.all_eq_true.1 hr p hp)
  omega
theorem filter_wids (d : Gr) (x : Nm) : (d.waits.filter (fun p => decide (p.1 ≠ x))).map (·.1) = d.wids.filter (fun y => decide (y ≠ x)) := by
  unfold Gr.wids
  rw [List.filter_map]; rfl

/-- One comes in. -/
theorem Fine.enter {d : Gr} {n : Nat} (h : Fine d n) {x : Nm} {ps : List Nm} (hx : d.has x = false) (hr : d.ready ps = true) (hz : x.size ≤ 1000) (hl : ps.length ≤ 1000) (hp : ∀ p ∈ ps, p.size ≤ 1000) :
    Fine (d.enter x ps) (n + 1) := by
  have hxm : x ∉ d.ids := by simpa [Gr.has] using hx
  refine ⟨?_, ?_, ?_, ?_, ?_, ?_, ?_, ?_, ?_, ?_, ?_⟩
  · have h1 := h.many
    have h2 := List.length_filter_le (fun p : Nm × List Nm => decide (p.1 ≠ x)) d.waits
    simp only [Gr.enter, List.length_append, List.length_cons, List.length_nil]
    omega
  · intro e he
    simp only [Gr.enter, List.length_append, List.length_cons, List.length_nil]
    rcases List.mem_append.1 he with he | he
    · have := h.lev e he; omega
    · simp only [List.mem_singleton] at he
      subst he
      have := top_le h hr
      simp only; omega
  · intro e he
    rcases List.mem_append.1 he with he | he
    · exact h.idz e he
    · simp only [List.mem_singleton] at he; subst he; exact hz
  · intro e he
    rcases List.mem_append.1 he with he | he
    · exact h.pl e he
    · simp only [List.mem_singleton] at he; subst he; exact hl
  · intro e he
    rcases List.mem_append.1 he with he | he
    · exact h.pz e he
    · simp only [List.mem_singleton] at he; subst he; exact hp
  · exact fun e he => h.widz e (List.mem_filter.1 he).1
  · exact fun e he => h.wpl e (List.mem_filter.1 he).1
  · exact fun e he => h.wpz e (List.mem_filter.1 he).1
  · show (List.map (·.1) (d.ins ++ [(x, ps, d.top ps)])).Nodup
    rw [List.map_append, List.nodup_append]
    refine ⟨h.nd, by simp, ?_⟩
    intro a ha b hb
    simp only [List.map_cons, List.map_nil, List.mem_singleton] at hb
    subst hb
    intro e
    subst e
    exact hxm ha
  · show (List.map (·.1) (d.waits.filter (fun p => decide (p.1 ≠ x)))).Nodup
    rw [filter_wids]
    exact h.wnd.filter _
  · intro y hy hw
    have hw' : y ∈ (d.waits.filter (fun p => decide (p.1 ≠ x))).map (·.1) := hw
    rw [filter_wids, List.mem_filter] at hw'
    have hy' : y ∈ List.map (·.1) (d.ins ++ [(x, ps, d.top ps)]) := hy
    rw [List.map_append, List.mem_append] at hy'
    rcases hy' with hy' | hy'
    · exact h.apart y hy' hw'.1
    · simp only [List.map_cons, List.map_nil, List.mem_singleton] at hy'
      subst hy'
      simpa using hw'.2
/-- One that waited comes in: as many as were. -/
theorem Fine.enterW {d : Gr} {n : Nat} (h : Fine d n) {x : Nm} {ps : List Nm} (hx : d.has x = false) (hw : x ∈ d.wids) (hr : d.ready ps = true) (hz : x.size ≤ 1000) (hl : ps.length ≤ 1000) (hp : ∀ p ∈ ps, p.size ≤ 1000) :
    Fine (d.enter x ps) n ∧ (d.enter x ps).waits.length < d.waits.length := by
  have h0 := h.enter hx hr hz hl hp
  have hlt : (d.enter x ps).waits.length < d.waits.length := by
    obtain ⟨e, he, rfl⟩ := List.mem_map.1 hw
    show (d.waits.filter (fun p => decide (p.1 ≠ e.1))).length < _
    exact List.length_filter_lt_length_iff_exists.2 ⟨e, he, by simp⟩
  refine ⟨{ h0 with many := ?_ }, hlt⟩
  have h1 := h.many
  have : (d.enter x ps).ins.length = d.ins.length + 1 := by simp [Gr.enter]
  omega
theorem first_some {d : Gr} {n : Nat} (h : Fine d n) {x : Nm} (hf : d.first = some x) :
    x ∈ d.wids ∧ d.has x = false ∧ d.ready (d.wpar x) = true ∧ x.size ≤ 1000 ∧ (d.wpar x).length ≤ 1000 ∧ ∀ p ∈ d.wpar x, p.size ≤ 1000 := by
  have hm : x ∈ d.wids := mem_srt.1 (List.mem_of_find?_eq_some hf)
  have hr := List.find?_some hf
  have hx : d.has x = false := by
    simp only [Gr.has, decide_eq_false_iff_not]
    exact fun hi => h.apart x hi hm
  cases hg : get d.waits x with
  | none => exact absurd hm (get_none.1 hg)
  | some v =>
    have hmem := get_some_mem hg
    have e : d.wpar x = v := by unfold Gr.wpar; rw [hg]; rfl
    refine ⟨hm, hx, hr, h.widz _ hmem, ?_, ?_⟩
    · rw [e]; exact h.wpl _ hmem
    · rw [e]; exact h.wpz _ hmem
theorem Fine.settle {n : Nat} (m : Nat) : ∀ (d : Gr) (out : List Nm), Fine d n → Fine (settleAll m d out).1 n := by
  induction m with
  | zero => exact fun d out h => h
  | succ m ih =>
    intro d out h
    unfold Da.settleAll
    split
    · exact h
    · rename_i x hf
      obtain ⟨h1, h2, h3, h4, h5, h6⟩ := first_some h hf
      exact ih _ _ (h.enterW h2 h1 h3 h4 h5 h6).1
theorem own_fine {ps : List Nm} (hl : ps.length ≤ 1000) (hp : ∀ p ∈ ps, p.size ≤ 1000) : (uniq (srt ps)).length ≤ 1000 ∧ ∀ p ∈ uniq (srt ps), p.size ≤ 1000 :=
  ⟨Nat.le_trans (uniq_length _) (by rw [srt_length]; exact hl), fun p h => hp p (mem_srt.1 (mem_uniq.1 h))⟩
theorem Fine.add {d : Gr} {n : Nat} (h : Fine d n) {x : Nm} {ps : List Nm} (hz : x.size ≤ 1000) (hl : ps.length ≤ 1000) (hp : ∀ p ∈ ps, p.size ≤ 1000) : Fine (d.add x ps).1 (n + 1) := by
  obtain ⟨h1, h2⟩ := own_fine hl hp
  unfold Gr.add
  split
  · exact h.mono (by omega)
  · rename_i hk
    simp only [Bool.not_eq_true, Gr.known, Bool.or_eq_false_iff] at hk
    split
    · rename_i hr
      exact Fine.settle _ _ _ (h.enter hk.2 hr hz h1 h2)
    · have hxi : x ∉ d.ids := by simpa [Gr.has] using hk.2
      have hxw : x ∉ d.wids := by simpa [Gr.hasW] using hk.1
      refine ⟨?_, h.lev, h.idz, h.pl, h.pz, ?_, ?_, ?_, h.nd, ?_, ?_⟩
      · have := h.many
        simp only [List.length_append, List.length_cons, List.length_nil]; omega
      · intro e he
        rcases List.mem_append.1 he with he | he
        · exact h.widz e he
        · simp only [List.mem_singleton] at he; subst he; exact hz
      · intro e he
        rcases List.mem_append.1 he with he | he
        · exact h.wpl e he
        · simp only [List.mem_singleton] at he; subst he; exact h1
      · intro e he
        rcases List.mem_append.1 he with he | he
        · exact h.wpz e he
        · simp only [List.mem_singleton] at he; subst he; exact h2
      · show (List.map (·.1) (d.waits ++ [(x, uniq (srt ps))])).Nodup
        rw [List.map_append, List.nodup_append]
        refine ⟨h.wnd, by simp, ?_⟩
        intro a ha b hb
        simp only [List.map_cons, List.map_nil, List.mem_singleton] at hb
        subst hb
        intro e
        subst e
        exact hxw ha
      · intro y hy hw
        have hw' : y ∈ List.map (·.1) (d.waits ++ [(x, uniq (srt ps))]) := hw
        rw [List.map_append, List.mem_append] at hw'
        rcases hw' with hw' | hw'
        · exact h.apart y hy hw'
        · simp only [List.map_cons, List.map_nil, List.mem_singleton] at hw'
          subst hw'
          exact hxi hy

end Go.Proofs.Ytlmcbmgdhpoedaa.Da
