/- How arguments are read ahead of a statement's walk: a row of strings. -/
import Derived.Test.YtekeiieefkgopaaDoorVw
import Derived.ProofKit
import Derived.SliceStrings
import Derived.SizedLaws
import Derived.OpenShut
import Derived.Below
namespace Go.Proofs.YtekeiieefkgopaaDoor.Rw
open Go Go.RowKit Go.ChangeShapes Go.WideShapes Go.Proofs.YtekeiieefkgopaaDoor.Aa Go.Proofs.YtekeiieefkgopaaDoor.Vw
section
variable {H : Type} {enc : TypeId × Value → H} {P : Program} {w : World} {base : Nat} {spare : Nat → Bool} {held : Bool}
theorem open_rowS {t e : TypeId} {fuel : Nat} {a : Option Addr} {len cap : Nat} {x : DataW H × List MemPlace} (ht : P.underlying t = some (.slice e)) (he : P.underlying e = some .string) (hc : P.cellsOf e = 1)
    (h : DataW.trod enc P w base spare held fuel t (Value.slice a len cap).cells.toList = some x) :
    ∃ xs : List ByteArray, len = xs.length ∧ El.str.Row w a cap xs ∧ (x.1 = .nil ∧ xs = [] ∨ ∃ sp, x.1 = .slice (strs xs) sp) := by
  rcases open_strings ht he hc h with ⟨hcs, hx⟩ | ⟨b, l, c, ss, hcs, _, hl, hm, hz, hx, hcell, _⟩
  · simp [Value.cells] at hcs
    obtain ⟨rfl, rfl, rfl⟩ := hcs
    exact ⟨[], rfl, El.Row.nil _ _, .inl ⟨by rw [hx], rfl⟩⟩
  · simp [Value.cells] at hcs
    obtain ⟨rfl, rfl, rfl⟩ := hcs
    have hls : len ≤ ss.length := by rw [hz]; split <;> omega
    refine ⟨ss.take len, by rw [List.length_take]; omega, ?_, .inr ⟨_, by rw [hx]⟩⟩
    refine El.Row.flat_of (by rw [List.length_take]; omega) hm (fun h => by cases h) (fun k y hy => ⟨b, rfl, ?_⟩)
    have hlt := (List.getElem?_eq_some_iff.1 hy).1
    rw [List.length_take] at hlt
    have := hcell k (by omega)
    rw [List.getElem?_take] at hy
    split at hy
    · rw [List.getD_eq_getElem?_getD, hy] at this
      exact this
    · cases hy
theorem weights_strs {e : TypeId} (xs : List ByteArray) (s : ByteArray) (hs : s ∈ xs) : s.size ∈ DataW.weightsAll (H := H) P e (strs xs) := by
  induction xs with
  | nil => simp at hs
  | cons y r ih =>
    simp only [strs, List.map_cons, DataW.weightsAll, List.mem_append]
    rcases List.mem_cons.1 hs with rfl | hs
    · left; simp [DataW.weights]
    · right; exact ih hs
theorem sized_strs {ts : List TypeId} {ds : List (DataW H)} (h : (DataW.weightsEach P ts ds).all (· ≤ reachBytes) = true) {j : Nat} {t e : TypeId} {d : DataW H} {xs : List ByteArray} (ht : ts[j]? = some t) (hd : ds[j]? = some d)
    (hx : d = .nil ∧ xs = [] ∨ ∃ sp, d = .slice (strs xs) sp) (hu : P.underlying t = some (.slice e)) : ∀ s ∈ xs, s.size ≤ 140737488355328 := by
  intro s hs
  rcases hx with ⟨_, rfl⟩ | ⟨sp, rfl⟩
  · simp at hs
  · have := List.all_eq_true.1 h _ (DataW.weights_mem_each ht hd s.size (by
      simp only [DataW.weights, hu, List.mem_cons, List.mem_append]
      exact .inr (.inl (weights_strs xs s hs))))
    have h2 : reachBytes < 2 ^ 47 := reachBytes_lt
    simp at this
    omega
end
end Go.Proofs.YtekeiieefkgopaaDoor.Rw
