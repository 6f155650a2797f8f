/- Trees together: plain lists. -/
import Derived.Test.YtekeiieefkgopaaDoorBa
import Derived.Test.YtekeiieefkgopaaDoorPh
namespace Go.Proofs.YtekeiieefkgopaaDoor.Bb
open Go Go.Proofs.YtekeiieefkgopaaDoor.No Go.Proofs.YtekeiieefkgopaaDoor.Nq Go.Proofs.YtekeiieefkgopaaDoor.Pg Go.Proofs.YtekeiieefkgopaaDoor.Ph Go.Proofs.YtekeiieefkgopaaDoor.Ba
set_option linter.unusedVariables false
set_option linter.unusedSimpArgs false

/-- Strings that rise. -/
def RiseS (l : List ByteArray) : Prop := l.Pairwise (fun x y => less x y = true)
theorem rise_map {t : List Fl} : Rise t ↔ RiseS (t.map (·.path)) := by unfold Rise RiseS; rw [List.pairwise_map]
theorem riseS_ext : ∀ {l m : List ByteArray}, RiseS l → RiseS m → (∀ x, x ∈ l ↔ x ∈ m) → l = m
  | [], [], _, _, _ => rfl
  | [], y :: m, _, _, h => by have := (h y).2 (List.mem_cons_self ..); simp at this
  | x :: l, [], _, _, h => by have := (h x).1 (List.mem_cons_self ..); simp at this
  | x :: l, y :: m, h1, h2, h => by
    have g1 := List.pairwise_cons.1 h1
    have g2 := List.pairwise_cons.1 h2
    have hxy : x = y := by
      rcases List.mem_cons.1 ((h x).1 (List.mem_cons_self ..)) with e | e
      · exact e
      · rcases List.mem_cons.1 ((h y).2 (List.mem_cons_self ..)) with f | f
        · exact f.symm
        · have q1 := g2.1 x e
          have q2 := g1.1 y f
          rw [less_asym q1] at q2; cases q2
    subst hxy
    refine congrArg _ (riseS_ext g1.2 g2.2 (fun z => ?_))
    constructor
    · intro hz
      rcases List.mem_cons.1 ((h z).1 (List.mem_cons_of_mem _ hz)) with e | e
      · have := g1.1 z hz; rw [e, less_irrefl] at this; cases this
      · exact e
    · intro hz
      rcases List.mem_cons.1 ((h z).2 (List.mem_cons_of_mem _ hz)) with e | e
      · have := g2.1 z hz; rw [e, less_irrefl] at this; cases this
      · exact e
theorem rise_paths {t u : List Fl} (ht : Rise t) (hu : Rise u) (hp : t.map (·.path) = u.map (·.path)) (h : ∀ f, f ∈ t → f ∈ u) : t = u := by
  induction t generalizing u with
  | nil => cases u with
    | nil => rfl
    | cons y u => simp at hp
  | cons x t ih =>
    cases u with
    | nil => simp at hp
    | cons y u =>
      simp only [List.map_cons, List.cons.injEq] at hp
      have g1 := List.pairwise_cons.1 ht
      have g2 := List.pairwise_cons.1 hu
      have hxy : x = y := by
        rcases List.mem_cons.1 (h x (List.mem_cons_self ..)) with e | e
        · exact e
        · have := g2.1 x e; rw [hp.1, less_irrefl] at this; cases this
      subst hxy
      rw [ih g1.2 g2.2 hp.2 (fun f hf => by
        rcases List.mem_cons.1 (h f (List.mem_cons_of_mem _ hf)) with e | e
        · have := g1.1 f hf; rw [e, less_irrefl] at this; cases this
        · exact e)]
theorem get_mem {t : List Fl} (ht : Rise t) (p s : ByteArray) : getF t p = some s ↔ ⟨p, s⟩ ∈ t := by
  unfold getF
  constructor
  · intro h
    cases hf : t.find? (fun f => decide (f.path = p)) with
    | none => rw [hf] at h; simp at h
    | some f =>
      rw [hf] at h
      have h1 := List.find?_some hf
      have h2 := List.mem_of_find?_eq_some hf
      simp only [decide_eq_true_eq] at h1
      have h3 : f.text = s := by simpa using h
      rw [← h1, ← h3]; exact h2
  · intro h
    induction t with
    | nil => simp at h
    | cons f t ih =>
      have g := List.pairwise_cons.1 ht
      rw [List.find?_cons]
      rcases List.mem_cons.1 h with e | e
      · rw [← e]; simp
      · have hne : f.path ≠ p := less_ne (g.1 _ e)
        simp only [hne, decide_false]
        exact ih g.2 e
theorem get_none {t : List Fl} (p : ByteArray) : getF t p = none ↔ p ∉ t.map (·.path) := by
  unfold getF
  rw [Option.map_eq_none_iff, List.find?_eq_none]
  simp only [decide_eq_true_eq, List.mem_map, not_exists, not_and]

theorem paths_mem (a b : List Fl) : ∀ p, p ∈ pathsL a b ↔ p ∈ a.map (·.path) ∨ p ∈ b.map (·.path) := by
  induction a, b using pathsL.induct with
  | case1 x a ih => intro p; rw [pathsL]; simp only [List.mem_cons, List.map_cons, ih]; simp
  | case2 y b ih => intro p; rw [pathsL]; simp only [List.mem_cons, List.map_cons, ih]; simp
  | case3 x a y b h ih => intro p; rw [pathsL, if_pos h]; simp only [List.mem_cons, List.map_cons, ih]; simp only [or_assoc]
  | case4 x a y b h h2 ih => intro p; rw [pathsL, if_neg h, if_pos h2]; simp only [List.mem_cons, List.map_cons, ih]; constructor <;> (intro h; rcases h with h | h | h <;> simp_all)
  | case5 x a y b h h2 ih =>
    intro p; rw [pathsL, if_neg h, if_neg h2]
    have e := less_tri (by simpa using h) (by simpa using h2)
    simp only [List.mem_cons, List.map_cons, ih, ← e]
    constructor
    · rintro (h | h | h) <;> simp [h]
    · rintro ((h | h) | (h | h)) <;> simp [h]
  | case6 => intro p; rw [pathsL]; simp
theorem paths_rise (a b : List Fl) : Rise a → Rise b → RiseS (pathsL a b) := by
  induction a, b using pathsL.induct with
  | case1 x a ih =>
    intro ha hb; rw [pathsL]
    have g := List.pairwise_cons.1 ha
    refine List.pairwise_cons.2 ⟨fun p hp => ?_, ih g.2 hb⟩
    rcases (paths_mem a [] p).1 hp with h | h
    · obtain ⟨f, hf, rfl⟩ := List.mem_map.1 h; exact g.1 f hf
    · simp at h
  | case2 y b ih =>
    intro ha hb; rw [pathsL]
    have g := List.pairwise_cons.1 hb
    refine List.pairwise_cons.2 ⟨fun p hp => ?_, ih ha g.2⟩
    rcases (paths_mem [] b p).1 hp with h | h
    · simp at h
    · obtain ⟨f, hf, rfl⟩ := List.mem_map.1 h; exact g.1 f hf
  | case3 x a y b h ih =>
    intro ha hb; rw [pathsL, if_pos h]
    have g := List.pairwise_cons.1 ha
    have k := List.pairwise_cons.1 hb
    refine List.pairwise_cons.2 ⟨fun p hp => ?_, ih g.2 hb⟩
    rcases (paths_mem a (y :: b) p).1 hp with h1 | h1
    · obtain ⟨f, hf, rfl⟩ := List.mem_map.1 h1; exact g.1 f hf
    · obtain ⟨f, hf, rfl⟩ := List.mem_map.1 h1
      rcases List.mem_cons.1 hf with rfl | hf
      · exact h
      · exact less_trans h (k.1 f hf)
  | case4 x a y b h h2 ih =>
    intro ha hb; rw [pathsL, if_neg h, if_pos h2]
    have g := List.pairwise_cons.1 ha
    have k := List.pairwise_cons.1 hb
    refine List.pairwise_cons.2 ⟨fun p hp => ?_, ih ha k.2⟩
    rcases (paths_mem (x :: a) b p).1 hp with h1 | h1
    · obtain ⟨f, hf, rfl⟩ := List.mem_map.1 h1
      rcases List.mem_cons.1 hf with rfl | hf
      · exact h2
      · exact less_trans h2 (g.1 f hf)
    · obtain ⟨f, hf, rfl⟩ := List.mem_map.1 h1; exact k.1 f hf
  | case5 x a y b h h2 ih =>
    intro ha hb; rw [pathsL, if_neg h, if_neg h2]
    have e := less_tri (by simpa using h) (by simpa using h2)
    have g := List.pairwise_cons.1 ha
    have k := List.pairwise_cons.1 hb
    refine List.pairwise_cons.2 ⟨fun p hp => ?_, ih g.2 k.2⟩
    rcases (paths_mem a b p).1 hp with h1 | h1
    · obtain ⟨f, hf, rfl⟩ := List.mem_map.1 h1; exact g.1 f hf
    · obtain ⟨f, hf, rfl⟩ := List.mem_map.1 h1; rw [e]; exact k.1 f hf
  | case6 => intro ha hb; rw [pathsL]; exact List.Pairwise.nil
theorem paths_swap {a b : List Fl} (ha : Rise a) (hb : Rise b) : pathsL b a = pathsL a b :=
  riseS_ext (paths_rise b a hb ha) (paths_rise a b ha hb) (fun p => by rw [paths_mem, paths_mem]; exact or_comm)

/-- The making, told without steps. -/
def fileAt (o a b : List Fl) (p : ByteArray) : Option Fl := if (oneB (ofF o p) (ofF a p) (ofF b p)).1.is then some ⟨p, (oneB (ofF o p) (ofF a p) (ofF b p)).1.text⟩ else none
def oddAt (o a b : List Fl) (p : ByteArray) : Bool := (oneB (ofF o p) (ofF a p) (ofF b p)).2
theorem fold_T (o a b : List Fl) : ∀ (ps : List ByteArray) (s : List Fl × List ByteArray), s.1.length + ps.length ≤ 1000 → ps.foldl (stepTr o a b) s = (s.1 ++ ps.filterMap (fileAt o a b), s.2 ++ ps.filter (oddAt o a b))
  | [], s, _ => by simp
  | p :: ps, s, h => by
    simp only [List.length_cons] at h
    have hlt : decide (s.1.length < 1000) = true := by simp; omega
    have hst : stepTr o a b s p = (s.1 ++ (fileAt o a b p).toList, s.2 ++ (if oddAt o a b p then [p] else [])) := by
      unfold stepTr fileAt oddAt
      rw [hlt, Bool.and_true]
      split <;> split <;> simp
    have hfl : (fileAt o a b p).toList.length ≤ 1 := by cases fileAt o a b p <;> simp
    rw [List.foldl_cons, hst, fold_T o a b ps]
    · cases hf : fileAt o a b p <;> cases ho : oddAt o a b p <;> simp [hf, ho]
    · simp only [List.length_append]; omega
theorem paths_len (a b : List Fl) : (pathsL a b).length ≤ a.length + b.length := by
  induction a, b using pathsL.induct with
  | case1 x a ih => rw [pathsL]; simp at *; omega
  | case2 y b ih => rw [pathsL]; simp at *; omega
  | case3 x a y b h ih => rw [pathsL, if_pos h]; simp at *; omega
  | case4 x a y b h h2 ih => rw [pathsL, if_neg h, if_pos h2]; simp at *; omega
  | case5 x a y b h h2 ih => rw [pathsL, if_neg h, if_neg h2]; simp at *; omega
  | case6 => rw [pathsL]; simp
theorem trees_eq (o a b : List Fl) (h : a.length + b.length ≤ 1000) : treesL o a b = ((pathsL a b).filterMap (fileAt o a b), (pathsL a b).filter (oddAt o a b)) := by
  unfold treesL
  rw [fold_T o a b _ _ (by have := paths_len a b; simp; omega)]
  simp
theorem file_path {o a b : List Fl} {p : ByteArray} {f : Fl} (h : fileAt o a b p = some f) : f.path = p := by
  unfold fileAt at h
  split at h
  · cases h; rfl
  · cases h
/-- .. they rise. -/
theorem filterMap_rise {o a b : List Fl} : ∀ {ps : List ByteArray}, RiseS ps → Rise (ps.filterMap (fileAt o a b))
  | [], _ => List.Pairwise.nil
  | p :: ps, h => by
    have g := List.pairwise_cons.1 h
    rw [List.filterMap_cons]
    split
    · exact filterMap_rise g.2
    · rename_i f hf
      refine List.pairwise_cons.2 ⟨fun x hx => ?_, filterMap_rise g.2⟩
      obtain ⟨q, hq, hx⟩ := List.mem_filterMap.1 hx
      rw [file_path hf, file_path hx]
      exact g.1 q hq
theorem ofF_some {t : List Fl} {p s : ByteArray} (h : getF t p = some s) : ofF t p = ⟨s, true⟩ := by unfold ofF; rw [h]
theorem ofF_none {t : List Fl} {p : ByteArray} (h : getF t p = none) : ofF t p = ⟨ByteArray.empty, false⟩ := by unfold ofF; rw [h]
/-- Where one side's files are told, it is that side. -/
theorem only_is {o a b x : List Fl} (hx : Rise x) (ha : Rise a) (hb : Rise b) (hp : ∀ p, p ∈ x.map (·.path) → p ∈ a.map (·.path) ∨ p ∈ b.map (·.path)) (h : ∀ p, oneB (ofF o p) (ofF a p) (ofF b p) = (ofF x p, false)) (hl : a.length + b.length ≤ 1000) :
    treesL o a b = (x, []) := by
  rw [trees_eq o a b hl]
  have hr := filterMap_rise (o := o) (a := a) (b := b) (paths_rise a b ha hb)
  have hm : ∀ f, f ∈ (pathsL a b).filterMap (fileAt o a b) ↔ f ∈ x := by
    intro f
    rw [List.mem_filterMap]
    constructor
    · rintro ⟨p, _, hf⟩
      unfold fileAt at hf
      rw [h p] at hf
      cases hg : getF x p with
      | none => rw [ofF_none hg] at hf; simp at hf
      | some s => rw [ofF_some hg] at hf; simp at hf; rw [← hf]; exact (get_mem hx p s).1 hg
    · intro hf
      refine ⟨f.path, (paths_mem a b _).2 (hp _ (List.mem_map.2 ⟨f, hf, rfl⟩)), ?_⟩
      unfold fileAt
      rw [h, ofF_some ((get_mem hx f.path f.text).2 hf)]
      rfl
  have hpe : ((pathsL a b).filterMap (fileAt o a b)).map (·.path) = x.map (·.path) := by
    refine riseS_ext (rise_map.1 hr) (rise_map.1 hx) (fun p => ?_)
    rw [List.mem_map, List.mem_map]
    exact ⟨fun ⟨f, hf, e⟩ => ⟨f, (hm f).1 hf, e⟩, fun ⟨f, hf, e⟩ => ⟨f, (hm f).2 hf, e⟩⟩
  rw [rise_paths hr hx hpe (fun f hf => (hm f).1 hf)]
  congr 1
  rw [List.filter_eq_nil_iff]
  intro p _
  unfold oddAt
  rw [h p]
  simp
theorem one_left' (o a : At) : oneB o a o = (a, false) := by unfold oneB; rw [if_pos (.inr rfl)]
theorem one_right' (o b : At) : oneB o o b = (b, false) := by
  unfold oneB
  split
  · rename_i h
    rcases h with h | h
    · rw [h]
    · rw [h]
  · rw [if_pos rfl]
theorem one_both' (o a : At) : oneB o a a = (a, false) := by unfold oneB; rw [if_pos (.inl rfl)]
theorem trees_left {o a : List Fl} (ho : Rise o) (ha : Rise a) (hl : o.length + a.length ≤ 1000) : treesL o a o = (a, []) :=
  only_is ha ha ho (fun p h => .inl h) (fun p => one_left' _ _) (by omega)
theorem trees_right {o a : List Fl} (ho : Rise o) (ha : Rise a) (hl : o.length + a.length ≤ 1000) : treesL o o a = (a, []) :=
  only_is ha ho ha (fun p h => .inr h) (fun p => one_right' _ _) (by omega)
theorem trees_both {o a : List Fl} (ha : Rise a) (hl : a.length + a.length ≤ 1000) : treesL o a a = (a, []) :=
  only_is ha ha ha (fun p h => .inl h) (fun p => one_both' _ _) (by omega)

/-- With the sides changed. -/
def Shape (x : At) : Prop := x.is = false → x.text = ByteArray.empty
theorem ofF_shape (t : List Fl) (p : ByteArray) : Shape (ofF t p) := by
  unfold ofF
  split
  · intro h; simp at h
  · intro _; rfl
theorem one_swap {o a b : At} (ha : Shape a) (hb : Shape b) (zo : o.text.size ≤ 1000) (za : a.text.size ≤ 1000) (zb : b.text.size ≤ 1000) :
    (oneB o b a).2 = (oneB o a b).2 ∧ (oneB o b a).1.is = (oneB o a b).1.is ∧ ((oneB o a b).2 = false → (oneB o b a).1.text = (oneB o a b).1.text) := by
  have hts := text_swap o.text a.text b.text zo za zb
  unfold oneB
  by_cases h1 : a = b
  · subst h1; rw [if_pos (.inl rfl)]; exact ⟨rfl, rfl, fun _ => rfl⟩
  · by_cases h2 : b = o
    · rw [if_pos (.inr h2 : a = b ∨ b = o), if_neg (by rintro (h | h); exact h1 h.symm; exact h1 (h.trans h2.symm)), if_pos h2]
      exact ⟨rfl, rfl, fun _ => rfl⟩
    · by_cases h3 : a = o
      · rw [if_neg (by rintro (h | h); exact h1 h; exact h2 h : ¬ (a = b ∨ b = o)), if_pos h3, if_pos (.inr h3 : b = a ∨ a = o)]
        exact ⟨rfl, rfl, fun _ => rfl⟩
      · rw [if_neg (by rintro (h | h); exact h1 h; exact h2 h : ¬ (a = b ∨ b = o)), if_neg h3, if_neg (by rintro (h | h); exact h1 h.symm; exact h3 h : ¬ (b = a ∨ a = o)), if_neg h2]
        unfold bothB
        cases hai : a.is with
        | false =>
          cases hbi : b.is with
          | false =>
            exfalso
            apply h1
            cases a; cases b
            simp only at hai hbi
            have q1 := ha hai; have q2 := hb hbi
            simp only at q1 q2
            rw [hai, hbi, q1, q2]
          | true => simp [hbi]
        | true =>
          cases hbi : b.is with
          | false => simp [hai]
          | true =>
            simp only [Bool.true_eq_false, if_false]
            obtain ⟨r1, e1⟩ : ∃ r, textOf o.text a.text b.text = r := ⟨_, rfl⟩
            obtain ⟨r2, e2⟩ : ∃ r, textOf o.text b.text a.text = r := ⟨_, rfl⟩
            rw [e1, e2] at hts ⊢
            obtain ⟨g1, g2⟩ := hts
            by_cases h0 : r1.2 = 0
            · rw [g2 h0, g1]
              split
              · exact ⟨rfl, rfl, fun h => by simp at h⟩
              · exact ⟨rfl, rfl, fun _ => rfl⟩
            · have p1 : decide (0 < r1.2) = true := by simp; omega
              rw [g1, p1]
              split <;> split <;> exact ⟨rfl, rfl, fun h => by simp at h⟩

end Go.Proofs.YtekeiieefkgopaaDoor.Bb
