/- How a row of files is read ahead of a statement's walk. -/
import Derived.Test.YtekeiieefkgopaaDoorXc
import Derived.Test.YtekeiieefkgopaaDoorRw
import Derived.Deep.SlicePairs
namespace Go.Proofs.YtekeiieefkgopaaDoor.Rf
open Go Go.RowKit Go.ChangeShapes Go.WideShapes Go.Deep Go.Proofs.YtekeiieefkgopaaDoor.Aa Go.Proofs.YtekeiieefkgopaaDoor.Vw Go.Proofs.YtekeiieefkgopaaDoor.Ba Go.Proofs.YtekeiieefkgopaaDoor.Bn
set_option linter.unusedVariables false
section
variable {H : Type} {enc : TypeId × Value → H} {w : World} {base : Nat} {spare : Nat → Bool} {held : Bool}
instance : Inhabited Fl := ⟨⟨ByteArray.empty, ByteArray.empty⟩⟩
def fdat (f : Fl) : DataW H := .agg [.lit (.string f.path.data.toList), .lit (.string f.text.data.toList)]
theorem flFields : ∃ f0 f1 : Field, Tryd.prog.underlying 31 = some (.struct #[f0, f1]) ∧ f0.offset = 0 ∧ f1.offset = 1 ∧ f0.type = 9 ∧ f1.type = 9 :=
  ⟨_, _, Tryd.underlying31, rfl, rfl, rfl, rfl⟩
theorem open_rowF {fuel : Nat} {a : Option Addr} {len cap : Nat} {x : DataW H × List MemPlace}
    (h : DataW.trod enc Tryd.prog w base spare held fuel 22 (Value.slice a len cap).cells.toList = some x) :
    ∃ xs : List Fl, len = xs.length ∧ file.Row w a cap xs ∧ (x.1 = .nil ∧ xs = [] ∨ ∃ sp, x.1 = .slice (xs.map fdat) sp) := by
  obtain ⟨f0, f1, hu, o0, o1, t0, t1⟩ := flFields
  have hs := Tryd.underlying9
  rcases open_slice_pairs Tryd.underlying22 hu (by kernel_rfl) o0 o1 (by rw [t0]; kernel_rfl) (by rw [t1]; kernel_rfl) h with ⟨hcs, hx⟩ | ⟨b, l, c, m, n, V0, V1, D0, D1, P0, P1, hcs, _, hl, hm, hmm, hx, hi⟩
  · simp [Value.cells] at hcs
    obtain ⟨rfl, rfl, rfl⟩ := hcs
    exact ⟨[], rfl, El.Row.nil _ _, .inl ⟨by rw [hx], rfl⟩⟩
  · simp [Value.cells] at hcs
    obtain ⟨rfl, rfl, rfl⟩ := hcs
    have hlm : len ≤ m := by rw [hmm]; split <;> omega
    have each : ∀ i, i < m → ∃ f : Fl, V0 i = .string f.path ∧ V1 i = .string f.text ∧ D0 i = .lit (.string f.path.data.toList) ∧ D1 i = .lit (.string f.text.data.toList) := by
      intro i him
      obtain ⟨_, _, h0, h1⟩ := hi i him
      rw [t0] at h0
      rw [t1] at h1
      obtain ⟨s0, e0, d0, _⟩ := DataW.trod_string hs h0
      obtain ⟨s1, e1, d1, _⟩ := DataW.trod_string hs h1
      simp only [Prod.mk.injEq] at d0 d1
      exact ⟨⟨s0, s1⟩, by simpa using e0, by simpa using e1, d0.1, d1.1⟩
    obtain ⟨q, hq⟩ := choose_lt each
    have hmap : ((List.range len).map q).map fdat = (List.range len).map fun i => (.agg [D0 i, D1 i] : DataW H) := by
      rw [List.map_map]
      refine List.map_congr_left (fun i hi => ?_)
      have := hq i (by have := List.mem_range.1 hi; omega)
      simp only [Function.comp, fdat, this.2.2.1, this.2.2.2]
    refine ⟨(List.range len).map q, by simp, ⟨by simpa using hl, hm, fun h => (by cases h), fun i x hx => ?_⟩, .inr ⟨_, by rw [hx, ← hmap]⟩⟩
    have hlt : i < len := by have := (List.getElem?_eq_some_iff.1 hx).1; simpa using this
    have e : q i = x := by
      rw [List.getElem?_map, List.getElem?_range hlt] at hx
      simpa using hx
    subst e
    obtain ⟨c0, c1, _, _⟩ := hi i (by omega)
    have hqi := hq i (by omega)
    rw [hqi.1] at c0
    rw [hqi.2.1] at c1
    refine ⟨b, [.string (q i).path, .string (q i).text], rfl, rfl, fun j c hj => ?_⟩
    have hz : file.sz = 2 := rfl
    rw [hz]
    match j, hj with
    | 0, hj => simp at hj; subst hj; simpa using c0
    | 1, hj => simp at hj; subst hj; exact c1
    | j + 2, hj => simp at hj
theorem weights_files (xs : List Fl) (f : Fl) (hf : f ∈ xs) : f.path.size ∈ DataW.weightsAll (H := H) Tryd.prog 31 (xs.map fdat) ∧ f.text.size ∈ DataW.weightsAll (H := H) Tryd.prog 31 (xs.map fdat) := by
  induction xs with
  | nil => simp at hf
  | cons y r ih =>
    simp only [List.map_cons, DataW.weightsAll, List.mem_append]
    rcases List.mem_cons.1 hf with rfl | hf
    · have hu := Tryd.underlying31
      constructor <;> left <;> simp [fdat, DataW.weights, hu, DataW.weightsEach]
    · exact ⟨.inr (ih hf).1, .inr (ih hf).2⟩
theorem sized_files {ts : List TypeId} {ds : List (DataW H)} (h : (DataW.weightsEach Tryd.prog ts ds).all (· ≤ reachBytes) = true) {j : Nat} {d : DataW H} {xs : List Fl} (ht : ts[j]? = some 22) (hd : ds[j]? = some d)
    (hx : d = .nil ∧ xs = [] ∨ ∃ sp, d = .slice (xs.map fdat) sp) : Szs 140737488355328 xs := by
  intro f hf
  rcases hx with ⟨_, rfl⟩ | ⟨sp, rfl⟩
  · simp at hf
  · have hu := Tryd.underlying22
    have key : ∀ n ∈ DataW.weightsAll (H := H) Tryd.prog 31 (xs.map fdat), n ≤ 140737488355328 := by
      intro n hn
      have := List.all_eq_true.1 h _ (DataW.weights_mem_each ht hd n (by
        simp only [DataW.weights, hu, List.mem_cons, List.mem_append]
        exact .inr (.inl hn)))
      have h2 : reachBytes < 2 ^ 47 := reachBytes_lt
      simp at this
      omega
    have hw := weights_files (H := H) xs f hf
    exact ⟨key _ hw.1, key _ hw.2⟩
end
end Go.Proofs.YtekeiieefkgopaaDoor.Rf
