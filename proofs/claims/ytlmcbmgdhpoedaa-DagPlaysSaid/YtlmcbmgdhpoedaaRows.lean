/-
  No cell of these rows narrows 'for every input' (looked for: loops, veiled, ifaces, maps, wideKeys, modest, calm, conditions, laid).
  DERIVED. THE GIVEN ROWS OF THIS SEAT. 5 by the template 'for every input the law returns true; each argument reads behind the call as it read before'; 0 by the template 'total and deterministic' (their statements: YtlmcbmgdhpoedaaTotals.lean).
  GIVEN WITH THE SEED: the statements are not yours to turn. If you find one false, say at which input.
  Laid BY PROGRAM, IN A SANDBOX (cutbox-rows.mjs): the forced cells as the released guide's own fill.sh prints them over the translation c77b8b57a0bb6334… (all of the seat's roots in one cut). By AI agents, Wed Nov 11 2026. No macro, syntax, notation, axiom, sorry.
-/
import Derived.Test.YtlmcbmgdhpoedaaChecked
import GoSem.Claim
import GoSem.ClaimJoined
import GoSem.ClaimMapViews
import Derived.JoinedTies
import Derived.KernelRfl
namespace Go.Proofs.Ytlmcbmgdhpoedaa
/- THE CELL 'sum', in the pinned program and in every row, IS THE sha256 OF THE DUMP (.gsa) THAT YtlmcbmgdhpoedaaProg.lean LOADS. Nothing in Lean hashes anything: it is a label: what it is worth is what the hold of that sum in a sandbox is worth. -/
noncomputable def Try.pinned : Pinned := { name := "ytlmcbmgdhpoedaa", sum := "c77b8b57a0bb63341da4ae4920a308e5610729672ac83eb128ac08516097e225", checked := Try.checked }
namespace Rows
def none {H : Type} : Left H := { results := [], args := [] }

/-- 'grapevinelaw15.DagHeads': WHATEVER THE INPUT: true; the input reads as it did. -/
def dagHeadsSpec : ChangeSpec := { name := "dagHeads", fn := fun _ => fun
  | [d] => { results := [.lit (.bool true)], args := [d] }
  | _ => none }
def dagHeadsRow : OpenClaim := { program := "ytlmcbmgdhpoedaa", sum := "c77b8b57a0bb63341da4ae4920a308e5610729672ac83eb128ac08516097e225", func := "grapevine/grapevinelaw15.DagHeads", spec := "dagHeads", inPlace := ["maps.clone"], unfollowed := true, recurses := true, apart := false }
def DagHeadsSaid : Prop := dagHeadsRow.holds Try.pinned (OpenSpec.ofChange dagHeadsSpec)

/-- ITS FALSE NEIGHBOUR: 'it returns false'. Refute it at one input. -/
def dagHeadsWrong : ChangeSpec := { name := "dagHeads", fn := fun _ => fun
  | [d] => { results := [.lit (.bool false)], args := [d] }
  | _ => none }
def DagHeadsWrongFalsely : Prop := dagHeadsRow.holds Try.pinned (OpenSpec.ofChange dagHeadsWrong)

/-- 'grapevinelaw15.DagChain': WHATEVER THE INPUT: true; the input reads as it did. -/
def dagChainSpec : ChangeSpec := { name := "dagChain", fn := fun _ => fun
  | [d] => { results := [.lit (.bool true)], args := [d] }
  | _ => none }
def dagChainRow : OpenClaim := { program := "ytlmcbmgdhpoedaa", sum := "c77b8b57a0bb63341da4ae4920a308e5610729672ac83eb128ac08516097e225", func := "grapevine/grapevinelaw15.DagChain", spec := "dagChain", inPlace := ["maps.clone"], unfollowed := true, recurses := true, apart := false }
def DagChainSaid : Prop := dagChainRow.holds Try.pinned (OpenSpec.ofChange dagChainSpec)

/-- ITS FALSE NEIGHBOUR: 'it returns false'. Refute it at one input. -/
def dagChainWrong : ChangeSpec := { name := "dagChain", fn := fun _ => fun
  | [d] => { results := [.lit (.bool false)], args := [d] }
  | _ => none }
def DagChainWrongFalsely : Prop := dagChainRow.holds Try.pinned (OpenSpec.ofChange dagChainWrong)

/-- 'grapevinelaw15.DagPlays': WHATEVER THE INPUT: true; the input reads as it did. -/
def dagPlaysSpec : ChangeSpec := { name := "dagPlays", fn := fun _ => fun
  | [d1, d2, d3] => { results := [.lit (.bool true)], args := [d1, d2, d3] }
  | _ => none }
def dagPlaysRow : OpenClaim := { program := "ytlmcbmgdhpoedaa", sum := "c77b8b57a0bb63341da4ae4920a308e5610729672ac83eb128ac08516097e225", func := "grapevine/grapevinelaw15.DagPlays", spec := "dagPlays", inPlace := ["maps.clone"], unfollowed := true, recurses := true, apart := false }
def DagPlaysSaid : Prop := dagPlaysRow.holds Try.pinned (OpenSpec.ofChange dagPlaysSpec)

/-- ITS FALSE NEIGHBOUR: 'it returns false'. Refute it at one input. -/
def dagPlaysWrong : ChangeSpec := { name := "dagPlays", fn := fun _ => fun
  | [d1, d2, d3] => { results := [.lit (.bool false)], args := [d1, d2, d3] }
  | _ => none }
def DagPlaysWrongFalsely : Prop := dagPlaysRow.holds Try.pinned (OpenSpec.ofChange dagPlaysWrong)

/-- 'grapevinelaw15.DagClosed': WHATEVER THE INPUT: true; the input reads as it did. -/
def dagClosedSpec : ChangeSpec := { name := "dagClosed", fn := fun _ => fun
  | [d] => { results := [.lit (.bool true)], args := [d] }
  | _ => none }
def dagClosedRow : OpenClaim := { program := "ytlmcbmgdhpoedaa", sum := "c77b8b57a0bb63341da4ae4920a308e5610729672ac83eb128ac08516097e225", func := "grapevine/grapevinelaw15.DagClosed", spec := "dagClosed", inPlace := ["maps.clone"], unfollowed := true, recurses := true, apart := false }
def DagClosedSaid : Prop := dagClosedRow.holds Try.pinned (OpenSpec.ofChange dagClosedSpec)

/-- ITS FALSE NEIGHBOUR: 'it returns false'. Refute it at one input. -/
def dagClosedWrong : ChangeSpec := { name := "dagClosed", fn := fun _ => fun
  | [d] => { results := [.lit (.bool false)], args := [d] }
  | _ => none }
def DagClosedWrongFalsely : Prop := dagClosedRow.holds Try.pinned (OpenSpec.ofChange dagClosedWrong)

/-- 'grapevinelaw15.DagTwice': WHATEVER THE INPUT: true; the input reads as it did. -/
def dagTwiceSpec : ChangeSpec := { name := "dagTwice", fn := fun _ => fun
  | [d1, d2, d3] => { results := [.lit (.bool true)], args := [d1, d2, d3] }
  | _ => none }
def dagTwiceRow : OpenClaim := { program := "ytlmcbmgdhpoedaa", sum := "c77b8b57a0bb63341da4ae4920a308e5610729672ac83eb128ac08516097e225", func := "grapevine/grapevinelaw15.DagTwice", spec := "dagTwice", inPlace := ["maps.clone"], unfollowed := true, recurses := true, apart := false }
def DagTwiceSaid : Prop := dagTwiceRow.holds Try.pinned (OpenSpec.ofChange dagTwiceSpec)

/-- ITS FALSE NEIGHBOUR: 'it returns false'. Refute it at one input. -/
def dagTwiceWrong : ChangeSpec := { name := "dagTwice", fn := fun _ => fun
  | [d1, d2, d3] => { results := [.lit (.bool false)], args := [d1, d2, d3] }
  | _ => none }
def DagTwiceWrongFalsely : Prop := dagTwiceRow.holds Try.pinned (OpenSpec.ofChange dagTwiceWrong)

/- THE SECOND FORM. 'bulk': how many values and letters a reading holds, each counted each time it is reached (what is shared counts as often as it is met; a slice's spare places count too). A statement '..UptoSaid' is the law's where the arguments, and the package variables that the reading takes, are together of bulk at most 1048576: NARROWER than '..Said'. Prove '..Said' where nothing that the law and all that it calls make is longer than what came in: it says more and counts as full. Else prove '..UptoSaid'. A law counts once. -/
mutual
def uptoBulk {H : Type} : DataW H → Nat
  | .lit (.string bytes) => bytes.length + 1
  | .lit _ => 1
  | .nil => 1
  | .ptr d => uptoBulk d + 1
  | .slice elems spare => uptoBulkAll elems + uptoBulkAll spare + 1
  | .agg parts => uptoBulkAll parts + 1
  | .iface _ d => uptoBulk d + 1
  | .map entries => uptoBulkEntries entries + 1
  | .held _ => 1
def uptoBulkAll {H : Type} : List (DataW H) → Nat
  | [] => 0
  | d :: r => uptoBulk d + uptoBulkAll r
def uptoBulkEntries {H : Type} : List (Lit × DataW H) → Nat
  | [] => 0
  | x :: r => uptoBulkEntry x + uptoBulkEntries r
def uptoBulkEntry {H : Type} : Lit × DataW H → Nat
  | (.string bytes, d) => bytes.length + uptoBulk d + 1
  | (_, d) => uptoBulk d + 1
 end
def uptoSmall : (H : Type) → List (DataW H) → Bool := fun _ ds => decide (uptoBulkAll ds ≤ 1048576)
def OpenSpec.upto (s : _root_.Go.ChangeSpec) : _root_.Go.OpenSpec := { _root_.Go.OpenSpec.ofChange s with cond := some uptoSmall }

/-- 'grapevinelaw15.DagHeads', WHERE WHAT IT READS IS OF BULK AT MOST 1048576: true; the input reads as it did. -/
def dagHeadsUptoRow : OpenClaim := { program := "ytlmcbmgdhpoedaa", sum := "c77b8b57a0bb63341da4ae4920a308e5610729672ac83eb128ac08516097e225", func := "grapevine/grapevinelaw15.DagHeads", spec := "dagHeads", inPlace := ["maps.clone"], unfollowed := true, recurses := true, apart := false, narrowed := true }
def DagHeadsUptoSaid : Prop := dagHeadsUptoRow.holds Try.pinned (OpenSpec.upto dagHeadsSpec)

/-- 'grapevinelaw15.DagChain', WHERE WHAT IT READS IS OF BULK AT MOST 1048576: true; the input reads as it did. -/
def dagChainUptoRow : OpenClaim := { program := "ytlmcbmgdhpoedaa", sum := "c77b8b57a0bb63341da4ae4920a308e5610729672ac83eb128ac08516097e225", func := "grapevine/grapevinelaw15.DagChain", spec := "dagChain", inPlace := ["maps.clone"], unfollowed := true, recurses := true, apart := false, narrowed := true }
def DagChainUptoSaid : Prop := dagChainUptoRow.holds Try.pinned (OpenSpec.upto dagChainSpec)

/-- 'grapevinelaw15.DagPlays', WHERE WHAT IT READS IS OF BULK AT MOST 1048576: true; the input reads as it did. -/
def dagPlaysUptoRow : OpenClaim := { program := "ytlmcbmgdhpoedaa", sum := "c77b8b57a0bb63341da4ae4920a308e5610729672ac83eb128ac08516097e225", func := "grapevine/grapevinelaw15.DagPlays", spec := "dagPlays", inPlace := ["maps.clone"], unfollowed := true, recurses := true, apart := false, narrowed := true }
def DagPlaysUptoSaid : Prop := dagPlaysUptoRow.holds Try.pinned (OpenSpec.upto dagPlaysSpec)

/-- 'grapevinelaw15.DagClosed', WHERE WHAT IT READS IS OF BULK AT MOST 1048576: true; the input reads as it did. -/
def dagClosedUptoRow : OpenClaim := { program := "ytlmcbmgdhpoedaa", sum := "c77b8b57a0bb63341da4ae4920a308e5610729672ac83eb128ac08516097e225", func := "grapevine/grapevinelaw15.DagClosed", spec := "dagClosed", inPlace := ["maps.clone"], unfollowed := true, recurses := true, apart := false, narrowed := true }
def DagClosedUptoSaid : Prop := dagClosedUptoRow.holds Try.pinned (OpenSpec.upto dagClosedSpec)

/-- 'grapevinelaw15.DagTwice', WHERE WHAT IT READS IS OF BULK AT MOST 1048576: true; the input reads as it did. -/
def dagTwiceUptoRow : OpenClaim := { program := "ytlmcbmgdhpoedaa", sum := "c77b8b57a0bb63341da4ae4920a308e5610729672ac83eb128ac08516097e225", func := "grapevine/grapevinelaw15.DagTwice", spec := "dagTwice", inPlace := ["maps.clone"], unfollowed := true, recurses := true, apart := false, narrowed := true }
def DagTwiceUptoSaid : Prop := dagTwiceUptoRow.holds Try.pinned (OpenSpec.upto dagTwiceSpec)

end Rows
end Go.Proofs.Ytlmcbmgdhpoedaa
