/- How a row of nodes is read ahead of a statement's walk. -/
import Derived.Test.YtlmcbmgdhpoedaaDs
import Derived.Test.YtlmcbmgdhpoedaaRw
import Derived.Deep.SlicePairs
namespace Go.Proofs.Ytlmcbmgdhpoedaa.Rn
open Go Go.RowKit Go.ChangeShapes Go.WideShapes Go.Deep Go.Proofs.Ytlmcbmgdhpoedaa.Aa Go.Proofs.Ytlmcbmgdhpoedaa.Vw Go.Proofs.Ytlmcbmgdhpoedaa.Ds Go.Proofs.Ytlmcbmgdhpoedaa.Rw
set_option linter.unusedVariables false
section
variable {H : Type} {enc : TypeId × Value → H} {w : World} {base : Nat} {spare : Nat → Bool} {held : Bool}
instance : Inhabited Nd := ⟨⟨ByteArray.empty, [], false⟩⟩
theorem ndFields : ∃ f0 f1 f2 : Field, Try.prog.underlying 42 = some (.struct #[f0, f1, f2]) ∧ f0.offset = 0 ∧ f1.offset = 1 ∧ f2.offset = 2 ∧ f0.type = 30 ∧ f1.type = 27 ∧ f2.type = 4 :=
  ⟨_, _, _, Try.underlying42, rfl, rfl, rfl, rfl, rfl, rfl⟩
theorem row_of {fuel : Nat} {v : Value} {x : DataW H × List MemPlace} (h : DataW.trod enc Try.prog w base spare held fuel 27 [v] = some x) : ∃ A c, ∃ xs : List ByteArray, v = .slice A xs.length c ∧ El.str.Row w A c xs := by
  have hv : ∃ A n c, v = .slice A n c := by
    rcases open_strings Try.underlying27 Try.underlying30 (by kernel_rfl) h with ⟨hcs, _⟩ | ⟨b, l, c, ss, hcs, _⟩
    · simp at hcs; exact ⟨_, _, _, hcs⟩
    · simp at hcs; exact ⟨_, _, _, hcs⟩
  obtain ⟨A, n, c, rfl⟩ := hv
  obtain ⟨xs, rfl, hr, _⟩ := open_rowS Try.underlying27 Try.underlying30 (by kernel_rfl) (a := A) (len := n) (cap := c) (by simpa [Value.cells] using h)
  exact ⟨A, c, xs, rfl, hr⟩
theorem open_rowN {fuel : Nat} {a : Option Addr} {len cap : Nat} {x : DataW H × List MemPlace}
    (h : DataW.trod enc Try.prog w base spare held fuel 22 (Value.slice a len cap).cells.toList = some x) : ∃ xs : List Nd, len = xs.length ∧ nd.Row w a cap xs := by
  obtain ⟨f0, f1, f2, hu, o0, o1, o2, t0, t1, t2⟩ := ndFields
  have ce : Try.prog.cellsOf 42 = 3 := by kernel_rfl
  have c0 : Try.prog.cellsOf f0.type = 1 := by rw [t0]; kernel_rfl
  have c1 : Try.prog.cellsOf f1.type = 1 := by rw [t1]; kernel_rfl
  have c2 : Try.prog.cellsOf f2.type = 1 := by rw [t2]; kernel_rfl
  rcases open_slice Try.underlying22 h with ⟨hcs, _⟩ | ⟨b, l, c, m, n, D, Pl, hcs, hb, hl, hm, hmm, rfl, hx⟩
  · simp [Value.cells] at hcs
    obtain ⟨rfl, rfl, rfl⟩ := hcs
    exact ⟨[], rfl, El.Row.nil _ _⟩
  · simp [Value.cells] at hcs
    obtain ⟨rfl, rfl, rfl⟩ := hcs
    have hlm : len ≤ m := by rw [hmm]; split <;> omega
    have each : ∀ i, i < m → ∃ q : Nd, ∃ A2 k2, w.cell? (b.add (i * 3)) = some (.string q.id) ∧ w.cell? (b.add (i * 3 + 1)) = some (.slice A2 q.par.length k2) ∧ w.cell? (b.add (i * 3 + 2)) = some (.bool q.inn) ∧ El.str.Row w A2 k2 q.par := by
      intro i hi
      obtain ⟨cs', h1, h2⟩ := hx i hi
      rw [ce] at h1
      obtain ⟨_, hlen, hcell⟩ := World.cells?_some h1
      obtain ⟨xs, k, hk, hxy, _, hxl, hf⟩ := DataW.trod_struct hu h2
      match xs, hxl, cs', hlen with
      | [y0, y1, y2], _, [v0, v1, v2], _ =>
        have g0 := hf 0 f0 rfl
        have g1 := hf 1 f1 rfl
        have g2 := hf 2 f2 rfl
        simp [o0, o1, o2, c0, c1, c2] at g0 g1 g2
        rw [t0] at g0
        rw [t1] at g1
        rw [t2] at g2
        have e0 := hcell 0 (by omega)
        have e1 := hcell 1 (by omega)
        have e2 := hcell 2 (by omega)
        rw [Deep.add_add] at e0 e1 e2
        obtain ⟨s0, es, _, _⟩ := DataW.trod_string Try.underlying30 g0
        obtain ⟨A2, k2, ps, hps, hr⟩ := row_of g1
        obtain ⟨bb, eb, _⟩ := DataW.trod_bool Try.underlying4 g2
        have es' : v0 = .string s0 := by simpa using es
        have eb' : v2 = .bool bb := by simpa using eb
        subst es' hps eb'
        exact ⟨⟨s0, ps, bb⟩, A2, k2, by simpa using e0, by simpa using e1, by simpa using e2, hr⟩
    obtain ⟨q, hq⟩ := choose_lt each
    refine ⟨(List.range len).map q, by simp, ⟨by simpa using hl, hm, fun h => (by cases h), fun i x hx => ?_⟩⟩
    have hlt : i < len := by have := (List.getElem?_eq_some_iff.1 hx).1; simpa using this
    have e : q i = x := by
      rw [List.getElem?_map, List.getElem?_range hlt] at hx
      simpa using hx
    subst e
    obtain ⟨A2, k2, c0, c1, c2, hr⟩ := hq i (by omega)
    refine ⟨b, [.string (q i).id, .slice A2 (q i).par.length k2, .bool (q i).inn], rfl, ⟨A2, k2, rfl, hr⟩, fun j c hj => ?_⟩
    have hz : nd.sz = 3 := rfl
    rw [hz]
    match j, hj with
    | 0, hj => simp at hj; subst hj; simpa using c0
    | 1, hj => simp at hj; subst hj; exact c1
    | 2, hj => simp at hj; subst hj; exact c2
    | j + 3, hj => simp at hj
end
end Go.Proofs.Ytlmcbmgdhpoedaa.Rn
