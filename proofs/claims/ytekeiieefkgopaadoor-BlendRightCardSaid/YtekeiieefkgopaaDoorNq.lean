/- merge.Text. -/
import Derived.Test.YtekeiieefkgopaaDoorNp
namespace Go.Proofs.YtekeiieefkgopaaDoor.Nq
open Go.RowKit Go.Proofs.YtekeiieefkgopaaDoor.Aa Go.Proofs.YtekeiieefkgopaaDoor.Vw Go.Proofs.YtekeiieefkgopaaDoor.Ma Go.Proofs.YtekeiieefkgopaaDoor.Mr Go.Proofs.YtekeiieefkgopaaDoor.Mb Go.Proofs.YtekeiieefkgopaaDoor.Mc Go.Proofs.YtekeiieefkgopaaDoor.Na Go.Proofs.YtekeiieefkgopaaDoor.Ne Go.Proofs.YtekeiieefkgopaaDoor.Nf Go.Proofs.YtekeiieefkgopaaDoor.Nh Go.Proofs.YtekeiieefkgopaaDoor.No Go.Proofs.YtekeiieefkgopaaDoor.Np
set_option linter.unusedVariables false
set_option linter.unusedSimpArgs false

def maxS (a b : ByteArray) : ByteArray := if Op.bytesLess a.toList b.toList then b else a
theorem mxStr (a b : ByteArray) : Builtin.max2 (.string a) (.string b) = pure (.string (maxS a b)) := by
  simp only [Builtin.max2, Op.stringOp, maxS]
  cases Op.bytesLess a.toList b.toList <;> rfl
def binB (s : ByteArray) : Bool := decide (0 ≤ Lib.indexByte s.data.toList 0)
def mergeL (o a b : List ByteArray) : List ByteArray := (regionsOf o a b).flatMap (tellR o a b)
/-- Two sides' texts, together. -/
def textOf (o a b : ByteArray) : ByteArray × Nat :=
  if a = b ∨ b = o then (a, 0) else if a = o then (b, 0) else if binB o || binB a || binB b then (maxS a b, 1)
  else (joinS (mergeL (splitS o) (splitS a) (splitS b)), clashN (regionsOf (splitS o) (splitS a) (splitS b)))

def TextP (r : ByteArray × Nat) (w : World) (e : Ending) (w' : World) : Prop := e = .returned (.tuple #[.string r.1, .int .i64 (r.2 : Nat)]) ∧ Ch no w w'

set_option maxRecDepth 100000 in
set_option maxHeartbeats 4000000 in
theorem text_of (o a b : ByteArray) (w : World) (ho : o.size ≤ 60000000) (ha : a.size ≤ 60000000) (hb : b.size ≤ 60000000) (hf : Fit (splitS o) (splitS a) (splitS b))
    (hlen : (joinS (mergeL (splitS o) (splitS a) (splitS b))).size ≤ 140737488355328) :
    Calls Tryd.prog 84 #[.string o, .string a, .string b] w (TextP (textOf o a b) w) := by
  have HF := Lib.hid hf; have HLN := Lib.hid hlen
  clear hf hlen
  have hms := mxStr a b
  have hmo := mxOp
  by_cases h1 : a = b
  · have HR : Hid (textOf o a b = (a, 0)) := Lib.hid (by unfold textOf; rw [if_pos (.inl h1)])
    have e1 := beq_yes h1
    clear h1 hms
    go_enter Tryd.func84, Tryd.ntmps84
    go_wp2_with fail
    go_ret2
    rw [HR.out]
    exact ⟨rfl, Ch.refl _ _⟩
  have e1 := beq_no h1
  by_cases h2 : b = o
  · have HR : Hid (textOf o a b = (a, 0)) := Lib.hid (by unfold textOf; rw [if_pos (.inr h2)])
    have e2 := beq_yes h2
    clear h1 h2 hms
    go_enter Tryd.func84, Tryd.ntmps84
    go_wp2_with fail
    go_ret2
    rw [HR.out]
    exact ⟨rfl, Ch.refl _ _⟩
  have e2 := beq_no h2
  by_cases h3 : a = o
  · have HR : Hid (textOf o a b = (b, 0)) := Lib.hid (by unfold textOf; rw [if_neg (by rintro (h | h); exact h1 h; exact h2 h), if_pos h3])
    have e3 := beq_yes h3
    clear h1 h2 h3 hms
    go_enter Tryd.func84, Tryd.ntmps84
    go_wp2_with fail
    go_ret2
    rw [HR.out]
    exact ⟨rfl, Ch.refl _ _⟩
  have e3 := beq_no h3
  have HR : Hid (textOf o a b = if binB o || binB a || binB b then (maxS a b, 1) else (joinS (mergeL (splitS o) (splitS a) (splitS b)), clashN (regionsOf (splitS o) (splitS a) (splitS b)))) :=
    Lib.hid (by unfold textOf; rw [if_neg (by rintro (h | h); exact h1 h; exact h2 h), if_neg h3])
  clear h1 h2 h3
  cases hbo : binB o with
  | true =>
    have Bo := Lib.hid hbo
    clear hbo
    go_enter Tryd.func84, Tryd.ntmps84
    go_wp2_with fail
    refine (binary_of o _).mono ?_
    rintro e w' ⟨rfl, hw⟩
    rw [← hw]
    clear hw w'
    rw [show decide (0 ≤ Lib.indexByte o.data.toList 0) = true from Bo.out]
    go_wp2_with fail
    go_ret2
    rw [HR.out, if_pos (by rw [Bo.out]; simp)]
    exact ⟨rfl, Ch.refl _ _⟩
  | false =>
    have Bo := Lib.hid hbo
    clear hbo
    cases hba : binB a with
    | true =>
      have Ba := Lib.hid hba
      clear hba
      go_enter Tryd.func84, Tryd.ntmps84
      go_wp2_with fail
      refine (binary_of o _).mono ?_
      rintro e w' ⟨rfl, hw⟩
      rw [← hw]
      clear hw w'
      rw [show decide (0 ≤ Lib.indexByte o.data.toList 0) = false from Bo.out]
      go_wp2_with fail
      refine (binary_of a _).mono ?_
      rintro e w' ⟨rfl, hw⟩
      rw [← hw]
      clear hw w'
      rw [show decide (0 ≤ Lib.indexByte a.data.toList 0) = true from Ba.out]
      go_wp2_with fail
      go_ret2
      rw [HR.out, if_pos (by rw [Ba.out]; simp)]
      exact ⟨rfl, Ch.refl _ _⟩
    | false =>
      have Ba := Lib.hid hba
      clear hba
      cases hbb : binB b with
      | true =>
        have Bb := Lib.hid hbb
        clear hbb
        go_enter Tryd.func84, Tryd.ntmps84
        go_wp2_with fail
        refine (binary_of o _).mono ?_
        rintro e w' ⟨rfl, hw⟩
        rw [← hw]
        clear hw w'
        rw [show decide (0 ≤ Lib.indexByte o.data.toList 0) = false from Bo.out]
        go_wp2_with fail
        refine (binary_of a _).mono ?_
        rintro e w' ⟨rfl, hw⟩
        rw [← hw]
        clear hw w'
        rw [show decide (0 ≤ Lib.indexByte a.data.toList 0) = false from Ba.out]
        go_wp2_with fail
        refine (binary_of b _).mono ?_
        rintro e w' ⟨rfl, hw⟩
        rw [← hw]
        clear hw w'
        rw [show decide (0 ≤ Lib.indexByte b.data.toList 0) = true from Bb.out]
        go_wp2_with fail
        go_ret2
        rw [HR.out, if_pos (by rw [Bb.out]; simp)]
        exact ⟨rfl, Ch.refl _ _⟩
      | false =>
        have Bb := Lib.hid hbb
        clear hbb hms
        go_enter Tryd.func84, Tryd.ntmps84
        go_wp2_with fail
        refine (binary_of o _).mono ?_
        rintro e w' ⟨rfl, hw⟩
        rw [← hw]
        clear hw w'
        rw [show decide (0 ≤ Lib.indexByte o.data.toList 0) = false from Bo.out]
        go_wp2_with fail
        refine (binary_of a _).mono ?_
        rintro e w' ⟨rfl, hw⟩
        rw [← hw]
        clear hw w'
        rw [show decide (0 ≤ Lib.indexByte a.data.toList 0) = false from Ba.out]
        go_wp2_with fail
        refine (binary_of b _).mono ?_
        rintro e w' ⟨rfl, hw⟩
        rw [← hw]
        clear hw w'
        rw [show decide (0 ≤ Lib.indexByte b.data.toList 0) = false from Bb.out]
        go_wp2_with fail
        refine (split_of o _ ho).mono ?_
        rintro e w1 ⟨v1, rfl, ho1, hc1⟩
        have HO1 := Lib.hid ho1; have HC1 := Lib.hid hc1
        clear ho1 hc1
        go_wp2_with fail
        refine (split_of a _ ha).mono ?_
        rintro e w2 ⟨v2, rfl, ho2, hc2⟩
        have HO2 := Lib.hid ho2; have HC2 := Lib.hid hc2
        clear ho2 hc2
        go_wp2_with fail
        refine (split_of b _ hb).mono ?_
        rintro e w3 ⟨v3, rfl, ho3, hc3⟩
        have HC3 := Lib.hid hc3
        obtain ⟨A3, c3, rfl, hr3⟩ := SL.of_own ho3
        obtain ⟨A2, c2, rfl, hr2⟩ := SL.of_own HO2.out
        obtain ⟨A1, c1, rfl, hr1⟩ := SL.of_own HO1.out
        have HR1 := Lib.hid hr1; have HR2 := Lib.hid hr2; have HR3 := Lib.hid hr3
        clear ho3 hc3 hr1 hr2 hr3
        have hz3 := HC3.out.size; have hz2 := HC2.out.size; have hz1 := HC1.out.size
        go_wp2_with fail
        refine (lines_any A1 A2 A3 c1 c2 c3 (splitS o) (splitS a) (splitS b) _ (HR1.out.ch (HC2.out.same HC3.out)) (HR2.out.ch HC3.out) HR3.out HF.out).mono ?_
        rintro e w4 ⟨v4, rfl, ho4, hc4⟩
        have HO4 := Lib.hid ho4; have HC4 := Lib.hid hc4
        clear ho4 hc4
        go_wp2_with fail
        refine (join_of v4 _ _ _ HO4.out HLN.out ?_).mono ?_
        · have := HF.out.len; omega
        rintro e w5 ⟨rfl, hc5⟩
        have HC5 := Lib.hid hc5
        clear hc5
        go_wp2_with fail
        go_ret2
        rw [HR.out, if_neg (by rw [Bo.out, Ba.out, Bb.out]; simp)]
        exact ⟨rfl, ((((HC1.out.same HC2.out).same HC3.out).same HC4.out).same HC5.out)⟩

end Go.Proofs.YtekeiieefkgopaaDoor.Nq
