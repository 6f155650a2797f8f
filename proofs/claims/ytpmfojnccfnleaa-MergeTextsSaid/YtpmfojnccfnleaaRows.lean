/-
  No cell of these rows narrows 'for every input' (looked for: loops, veiled, ifaces, maps, wideKeys, modest, calm, conditions, laid).
  DERIVED. THE GIVEN ROWS OF THIS SEAT. 14 by the template 'for every input the law returns true; each argument reads behind the call as it read before'; 0 by the template 'total and deterministic' (their statements: YtpmfojnccfnleaaTotals.lean).
  GIVEN WITH THE SEED: the statements are not yours to turn. If you find one false, say at which input.
  Laid BY PROGRAM, IN A SANDBOX (cutbox-rows.mjs): the forced cells as the released guide's own fill.sh prints them over the translation b5c30e8ae6fe81d0… (all of the seat's roots in one cut). By AI agents, Wed Nov 11 2026. No macro, syntax, notation, axiom, sorry.
-/
import Derived.Test.YtpmfojnccfnleaaChecked
import GoSem.Claim
import GoSem.ClaimJoined
import GoSem.ClaimMapViews
import Derived.JoinedTies
import Derived.KernelRfl
namespace Go.Proofs.Ytpmfojnccfnleaa
/- THE CELL 'sum', in the pinned program and in every row, IS THE sha256 OF THE DUMP (.gsa) THAT YtpmfojnccfnleaaProg.lean LOADS. Nothing in Lean hashes anything: it is a label: what it is worth is what the hold of that sum in a sandbox is worth. -/
noncomputable def Try.pinned : Pinned := { name := "ytpmfojnccfnleaa", sum := "b5c30e8ae6fe81d0f4914c09f98dc5e5a9b9febad208ab033014625a6286f34f", checked := Try.checked }
namespace Rows
def none {H : Type} : Left H := { results := [], args := [] }

/-- 'grapevinelaw22.RetryPlays': WHATEVER THE INPUT: true; the input reads as it did. -/
def retryPlaysSpec : ChangeSpec := { name := "retryPlays", fn := fun _ => fun
  | [d1, d2, d3] => { results := [.lit (.bool true)], args := [d1, d2, d3] }
  | _ => none }
def retryPlaysRow : OpenClaim := { program := "ytpmfojnccfnleaa", sum := "b5c30e8ae6fe81d0f4914c09f98dc5e5a9b9febad208ab033014625a6286f34f", func := "grapevine/grapevinelaw22.RetryPlays", spec := "retryPlays", apart := false }
def RetryPlaysSaid : Prop := retryPlaysRow.holds Try.pinned (OpenSpec.ofChange retryPlaysSpec)

/-- ITS FALSE NEIGHBOUR: 'it returns false'. Refute it at one input. -/
def retryPlaysWrong : ChangeSpec := { name := "retryPlays", fn := fun _ => fun
  | [d1, d2, d3] => { results := [.lit (.bool false)], args := [d1, d2, d3] }
  | _ => none }
def RetryPlaysWrongFalsely : Prop := retryPlaysRow.holds Try.pinned (OpenSpec.ofChange retryPlaysWrong)

/-- 'grapevinelaw22.RetryLimits': WHATEVER THE INPUT: true; the input reads as it did. -/
def retryLimitsSpec : ChangeSpec := { name := "retryLimits", fn := fun _ => fun
  | [d1, d2, d3] => { results := [.lit (.bool true)], args := [d1, d2, d3] }
  | _ => none }
def retryLimitsRow : OpenClaim := { program := "ytpmfojnccfnleaa", sum := "b5c30e8ae6fe81d0f4914c09f98dc5e5a9b9febad208ab033014625a6286f34f", func := "grapevine/grapevinelaw22.RetryLimits", spec := "retryLimits", apart := false }
def RetryLimitsSaid : Prop := retryLimitsRow.holds Try.pinned (OpenSpec.ofChange retryLimitsSpec)

/-- ITS FALSE NEIGHBOUR: 'it returns false'. Refute it at one input. -/
def retryLimitsWrong : ChangeSpec := { name := "retryLimits", fn := fun _ => fun
  | [d1, d2, d3] => { results := [.lit (.bool false)], args := [d1, d2, d3] }
  | _ => none }
def RetryLimitsWrongFalsely : Prop := retryLimitsRow.holds Try.pinned (OpenSpec.ofChange retryLimitsWrong)

/-- 'grapevinelaw22.RetryParts': WHATEVER THE INPUT: true; the input reads as it did. -/
def retryPartsSpec : ChangeSpec := { name := "retryParts", fn := fun _ => fun
  | [d1, d2, d3] => { results := [.lit (.bool true)], args := [d1, d2, d3] }
  | _ => none }
def retryPartsRow : OpenClaim := { program := "ytpmfojnccfnleaa", sum := "b5c30e8ae6fe81d0f4914c09f98dc5e5a9b9febad208ab033014625a6286f34f", func := "grapevine/grapevinelaw22.RetryParts", spec := "retryParts", apart := false }
def RetryPartsSaid : Prop := retryPartsRow.holds Try.pinned (OpenSpec.ofChange retryPartsSpec)

/-- ITS FALSE NEIGHBOUR: 'it returns false'. Refute it at one input. -/
def retryPartsWrong : ChangeSpec := { name := "retryParts", fn := fun _ => fun
  | [d1, d2, d3] => { results := [.lit (.bool false)], args := [d1, d2, d3] }
  | _ => none }
def RetryPartsWrongFalsely : Prop := retryPartsRow.holds Try.pinned (OpenSpec.ofChange retryPartsWrong)

/-- 'grapevinelaw22.RetryDoubles': WHATEVER THE INPUT: true; the input reads as it did. -/
def retryDoublesSpec : ChangeSpec := { name := "retryDoubles", fn := fun _ => fun
  | [d1, d2, d3] => { results := [.lit (.bool true)], args := [d1, d2, d3] }
  | _ => none }
def retryDoublesRow : OpenClaim := { program := "ytpmfojnccfnleaa", sum := "b5c30e8ae6fe81d0f4914c09f98dc5e5a9b9febad208ab033014625a6286f34f", func := "grapevine/grapevinelaw22.RetryDoubles", spec := "retryDoubles", apart := false }
def RetryDoublesSaid : Prop := retryDoublesRow.holds Try.pinned (OpenSpec.ofChange retryDoublesSpec)

/-- ITS FALSE NEIGHBOUR: 'it returns false'. Refute it at one input. -/
def retryDoublesWrong : ChangeSpec := { name := "retryDoubles", fn := fun _ => fun
  | [d1, d2, d3] => { results := [.lit (.bool false)], args := [d1, d2, d3] }
  | _ => none }
def RetryDoublesWrongFalsely : Prop := retryDoublesRow.holds Try.pinned (OpenSpec.ofChange retryDoublesWrong)

/-- 'grapevinelaw09.MergeLines': WHATEVER THE INPUT: true; the input reads as it did. -/
def mergeLinesSpec : ChangeSpec := { name := "mergeLines", fn := fun _ => fun
  | [d1, d2, d3] => { results := [.lit (.bool true)], args := [d1, d2, d3] }
  | _ => none }
def mergeLinesRow : OpenClaim := { program := "ytpmfojnccfnleaa", sum := "b5c30e8ae6fe81d0f4914c09f98dc5e5a9b9febad208ab033014625a6286f34f", func := "grapevine/grapevinelaw09.MergeLines", spec := "mergeLines", inPlace := ["internal/bytealg.IndexByteString", "internal/bytealg.IndexString", "internal/abi.NoEscape", "internal/bytealg.MakeNoZero"], unfollowed := true, recurses := true, named := ["internal/bytealg.MaxLen"], apart := false }
def MergeLinesSaid : Prop := mergeLinesRow.holds Try.pinned (OpenSpec.ofChange mergeLinesSpec)

/-- ITS FALSE NEIGHBOUR: 'it returns false'. Refute it at one input. -/
def mergeLinesWrong : ChangeSpec := { name := "mergeLines", fn := fun _ => fun
  | [d1, d2, d3] => { results := [.lit (.bool false)], args := [d1, d2, d3] }
  | _ => none }
def MergeLinesWrongFalsely : Prop := mergeLinesRow.holds Try.pinned (OpenSpec.ofChange mergeLinesWrong)

/-- 'grapevinelaw09.MergeTexts': WHATEVER THE INPUT: true; the input reads as it did. -/
def mergeTextsSpec : ChangeSpec := { name := "mergeTexts", fn := fun _ => fun
  | [d1, d2, d3] => { results := [.lit (.bool true)], args := [d1, d2, d3] }
  | _ => none }
def mergeTextsRow : OpenClaim := { program := "ytpmfojnccfnleaa", sum := "b5c30e8ae6fe81d0f4914c09f98dc5e5a9b9febad208ab033014625a6286f34f", func := "grapevine/grapevinelaw09.MergeTexts", spec := "mergeTexts", inPlace := ["internal/bytealg.IndexByteString", "internal/bytealg.IndexString", "internal/abi.NoEscape", "internal/bytealg.MakeNoZero"], unfollowed := true, recurses := true, named := ["internal/bytealg.MaxLen"], apart := false }
def MergeTextsSaid : Prop := mergeTextsRow.holds Try.pinned (OpenSpec.ofChange mergeTextsSpec)

/-- ITS FALSE NEIGHBOUR: 'it returns false'. Refute it at one input. -/
def mergeTextsWrong : ChangeSpec := { name := "mergeTexts", fn := fun _ => fun
  | [d1, d2, d3] => { results := [.lit (.bool false)], args := [d1, d2, d3] }
  | _ => none }
def MergeTextsWrongFalsely : Prop := mergeTextsRow.holds Try.pinned (OpenSpec.ofChange mergeTextsWrong)

/-- 'grapevinelaw09.MergeOne': WHATEVER THE INPUT: true; the input reads as it did. -/
def mergeOneSpec : ChangeSpec := { name := "mergeOne", fn := fun _ => fun
  | [d1, d2, d3, d4] => { results := [.lit (.bool true)], args := [d1, d2, d3, d4] }
  | _ => none }
def mergeOneRow : OpenClaim := { program := "ytpmfojnccfnleaa", sum := "b5c30e8ae6fe81d0f4914c09f98dc5e5a9b9febad208ab033014625a6286f34f", func := "grapevine/grapevinelaw09.MergeOne", spec := "mergeOne", inPlace := ["internal/bytealg.IndexByteString", "internal/bytealg.IndexString", "internal/abi.NoEscape", "internal/bytealg.MakeNoZero"], unfollowed := true, recurses := true, named := ["internal/bytealg.MaxLen"], apart := false }
def MergeOneSaid : Prop := mergeOneRow.holds Try.pinned (OpenSpec.ofChange mergeOneSpec)

/-- ITS FALSE NEIGHBOUR: 'it returns false'. Refute it at one input. -/
def mergeOneWrong : ChangeSpec := { name := "mergeOne", fn := fun _ => fun
  | [d1, d2, d3, d4] => { results := [.lit (.bool false)], args := [d1, d2, d3, d4] }
  | _ => none }
def MergeOneWrongFalsely : Prop := mergeOneRow.holds Try.pinned (OpenSpec.ofChange mergeOneWrong)

/-- 'grapevinelaw09.MergeSides': WHATEVER THE INPUT: true; the input reads as it did. -/
def mergeSidesSpec : ChangeSpec := { name := "mergeSides", fn := fun _ => fun
  | [d1, d2, d3] => { results := [.lit (.bool true)], args := [d1, d2, d3] }
  | _ => none }
def mergeSidesRow : OpenClaim := { program := "ytpmfojnccfnleaa", sum := "b5c30e8ae6fe81d0f4914c09f98dc5e5a9b9febad208ab033014625a6286f34f", func := "grapevine/grapevinelaw09.MergeSides", spec := "mergeSides", inPlace := ["internal/bytealg.IndexByteString", "internal/bytealg.IndexString", "internal/abi.NoEscape", "internal/bytealg.MakeNoZero"], unfollowed := true, recurses := true, named := ["internal/bytealg.MaxLen"], apart := false }
def MergeSidesSaid : Prop := mergeSidesRow.holds Try.pinned (OpenSpec.ofChange mergeSidesSpec)

/-- ITS FALSE NEIGHBOUR: 'it returns false'. Refute it at one input. -/
def mergeSidesWrong : ChangeSpec := { name := "mergeSides", fn := fun _ => fun
  | [d1, d2, d3] => { results := [.lit (.bool false)], args := [d1, d2, d3] }
  | _ => none }
def MergeSidesWrongFalsely : Prop := mergeSidesRow.holds Try.pinned (OpenSpec.ofChange mergeSidesWrong)

/-- 'grapevinelaw09.MergeKeeps': WHATEVER THE INPUT: true; the input reads as it did. -/
def mergeKeepsSpec : ChangeSpec := { name := "mergeKeeps", fn := fun _ => fun
  | [d1, d2, d3] => { results := [.lit (.bool true)], args := [d1, d2, d3] }
  | _ => none }
def mergeKeepsRow : OpenClaim := { program := "ytpmfojnccfnleaa", sum := "b5c30e8ae6fe81d0f4914c09f98dc5e5a9b9febad208ab033014625a6286f34f", func := "grapevine/grapevinelaw09.MergeKeeps", spec := "mergeKeeps", inPlace := ["internal/bytealg.IndexByteString", "internal/bytealg.IndexString", "internal/abi.NoEscape", "internal/bytealg.MakeNoZero"], unfollowed := true, recurses := true, named := ["internal/bytealg.MaxLen"], apart := false }
def MergeKeepsSaid : Prop := mergeKeepsRow.holds Try.pinned (OpenSpec.ofChange mergeKeepsSpec)

/-- ITS FALSE NEIGHBOUR: 'it returns false'. Refute it at one input. -/
def mergeKeepsWrong : ChangeSpec := { name := "mergeKeeps", fn := fun _ => fun
  | [d1, d2, d3] => { results := [.lit (.bool false)], args := [d1, d2, d3] }
  | _ => none }
def MergeKeepsWrongFalsely : Prop := mergeKeepsRow.holds Try.pinned (OpenSpec.ofChange mergeKeepsWrong)

/-- 'grapevinelaw15.DagHeads': WHATEVER THE INPUT: true; the input reads as it did. -/
def dagHeadsSpec : ChangeSpec := { name := "dagHeads", fn := fun _ => fun
  | [d] => { results := [.lit (.bool true)], args := [d] }
  | _ => none }
def dagHeadsRow : OpenClaim := { program := "ytpmfojnccfnleaa", sum := "b5c30e8ae6fe81d0f4914c09f98dc5e5a9b9febad208ab033014625a6286f34f", func := "grapevine/grapevinelaw15.DagHeads", spec := "dagHeads", inPlace := ["maps.clone"], unfollowed := true, recurses := true, apart := false }
def DagHeadsSaid : Prop := dagHeadsRow.holds Try.pinned (OpenSpec.ofChange dagHeadsSpec)

/-- ITS FALSE NEIGHBOUR: 'it returns false'. Refute it at one input. -/
def dagHeadsWrong : ChangeSpec := { name := "dagHeads", fn := fun _ => fun
  | [d] => { results := [.lit (.bool false)], args := [d] }
  | _ => none }
def DagHeadsWrongFalsely : Prop := dagHeadsRow.holds Try.pinned (OpenSpec.ofChange dagHeadsWrong)

/-- 'grapevinelaw15.DagChain': WHATEVER THE INPUT: true; the input reads as it did. -/
def dagChainSpec : ChangeSpec := { name := "dagChain", fn := fun _ => fun
  | [d] => { results := [.lit (.bool true)], args := [d] }
  | _ => none }
def dagChainRow : OpenClaim := { program := "ytpmfojnccfnleaa", sum := "b5c30e8ae6fe81d0f4914c09f98dc5e5a9b9febad208ab033014625a6286f34f", func := "grapevine/grapevinelaw15.DagChain", spec := "dagChain", inPlace := ["maps.clone"], unfollowed := true, recurses := true, apart := false }
def DagChainSaid : Prop := dagChainRow.holds Try.pinned (OpenSpec.ofChange dagChainSpec)

/-- ITS FALSE NEIGHBOUR: 'it returns false'. Refute it at one input. -/
def dagChainWrong : ChangeSpec := { name := "dagChain", fn := fun _ => fun
  | [d] => { results := [.lit (.bool false)], args := [d] }
  | _ => none }
def DagChainWrongFalsely : Prop := dagChainRow.holds Try.pinned (OpenSpec.ofChange dagChainWrong)

/-- 'grapevinelaw15.DagPlays': WHATEVER THE INPUT: true; the input reads as it did. -/
def dagPlaysSpec : ChangeSpec := { name := "dagPlays", fn := fun _ => fun
  | [d1, d2, d3] => { results := [.lit (.bool true)], args := [d1, d2, d3] }
  | _ => none }
def dagPlaysRow : OpenClaim := { program := "ytpmfojnccfnleaa", sum := "b5c30e8ae6fe81d0f4914c09f98dc5e5a9b9febad208ab033014625a6286f34f", func := "grapevine/grapevinelaw15.DagPlays", spec := "dagPlays", inPlace := ["maps.clone"], unfollowed := true, recurses := true, apart := false }
def DagPlaysSaid : Prop := dagPlaysRow.holds Try.pinned (OpenSpec.ofChange dagPlaysSpec)

/-- ITS FALSE NEIGHBOUR: 'it returns false'. Refute it at one input. -/
def dagPlaysWrong : ChangeSpec := { name := "dagPlays", fn := fun _ => fun
  | [d1, d2, d3] => { results := [.lit (.bool false)], args := [d1, d2, d3] }
  | _ => none }
def DagPlaysWrongFalsely : Prop := dagPlaysRow.holds Try.pinned (OpenSpec.ofChange dagPlaysWrong)

/-- 'grapevinelaw15.DagClosed': WHATEVER THE INPUT: true; the input reads as it did. -/
def dagClosedSpec : ChangeSpec := { name := "dagClosed", fn := fun _ => fun
  | [d] => { results := [.lit (.bool true)], args := [d] }
  | _ => none }
def dagClosedRow : OpenClaim := { program := "ytpmfojnccfnleaa", sum := "b5c30e8ae6fe81d0f4914c09f98dc5e5a9b9febad208ab033014625a6286f34f", func := "grapevine/grapevinelaw15.DagClosed", spec := "dagClosed", inPlace := ["maps.clone"], unfollowed := true, recurses := true, apart := false }
def DagClosedSaid : Prop := dagClosedRow.holds Try.pinned (OpenSpec.ofChange dagClosedSpec)

/-- ITS FALSE NEIGHBOUR: 'it returns false'. Refute it at one input. -/
def dagClosedWrong : ChangeSpec := { name := "dagClosed", fn := fun _ => fun
  | [d] => { results := [.lit (.bool false)], args := [d] }
  | _ => none }
def DagClosedWrongFalsely : Prop := dagClosedRow.holds Try.pinned (OpenSpec.ofChange dagClosedWrong)

/-- 'grapevinelaw15.DagTwice': WHATEVER THE INPUT: true; the input reads as it did. -/
def dagTwiceSpec : ChangeSpec := { name := "dagTwice", fn := fun _ => fun
  | [d1, d2, d3] => { results := [.lit (.bool true)], args := [d1, d2, d3] }
  | _ => none }
def dagTwiceRow : OpenClaim := { program := "ytpmfojnccfnleaa", sum := "b5c30e8ae6fe81d0f4914c09f98dc5e5a9b9febad208ab033014625a6286f34f", func := "grapevine/grapevinelaw15.DagTwice", spec := "dagTwice", inPlace := ["maps.clone"], unfollowed := true, recurses := true, apart := false }
def DagTwiceSaid : Prop := dagTwiceRow.holds Try.pinned (OpenSpec.ofChange dagTwiceSpec)

/-- ITS FALSE NEIGHBOUR: 'it returns false'. Refute it at one input. -/
def dagTwiceWrong : ChangeSpec := { name := "dagTwice", fn := fun _ => fun
  | [d1, d2, d3] => { results := [.lit (.bool false)], args := [d1, d2, d3] }
  | _ => none }
def DagTwiceWrongFalsely : Prop := dagTwiceRow.holds Try.pinned (OpenSpec.ofChange dagTwiceWrong)

/- THE SECOND FORM. 'bulk': how many values and letters a reading holds, each counted each time it is reached (what is shared counts as often as it is met; a slice's spare places count too). A statement '..UptoSaid' is the law's where the arguments, and the package variables that the reading takes, are together of bulk at most 1048576: NARROWER than '..Said'. Prove '..Said' where nothing that the law and all that it calls make is longer than what came in: it says more and counts as full. Else prove '..UptoSaid'. A law counts once. -/
mutual
def uptoBulk {H : Type} : DataW H → Nat
  | .lit (.string bytes) => bytes.length + 1
  | .lit _ => 1
  | .nil => 1
  | .ptr d => uptoBulk d + 1
  | .slice elems spare => uptoBulkAll elems + uptoBulkAll spare + 1
  | .agg parts => uptoBulkAll parts + 1
  | .iface _ d => uptoBulk d + 1
  | .map entries => uptoBulkEntries entries + 1
  | .held _ => 1
def uptoBulkAll {H : Type} : List (DataW H) → Nat
  | [] => 0
  | d :: r => uptoBulk d + uptoBulkAll r
def uptoBulkEntries {H : Type} : List (Lit × DataW H) → Nat
  | [] => 0
  | x :: r => uptoBulkEntry x + uptoBulkEntries r
def uptoBulkEntry {H : Type} : Lit × DataW H → Nat
  | (.string bytes, d) => bytes.length + uptoBulk d + 1
  | (_, d) => uptoBulk d + 1
 end
def uptoSmall : (H : Type) → List (DataW H) → Bool := fun _ ds => decide (uptoBulkAll ds ≤ 1048576)
def OpenSpec.upto (s : _root_.Go.ChangeSpec) : _root_.Go.OpenSpec := { _root_.Go.OpenSpec.ofChange s with cond := some uptoSmall }

/-- 'grapevinelaw22.RetryPlays', WHERE WHAT IT READS IS OF BULK AT MOST 1048576: true; the input reads as it did. -/
def retryPlaysUptoRow : OpenClaim := { program := "ytpmfojnccfnleaa", sum := "b5c30e8ae6fe81d0f4914c09f98dc5e5a9b9febad208ab033014625a6286f34f", func := "grapevine/grapevinelaw22.RetryPlays", spec := "retryPlays", apart := false, narrowed := true }
def RetryPlaysUptoSaid : Prop := retryPlaysUptoRow.holds Try.pinned (OpenSpec.upto retryPlaysSpec)

/-- 'grapevinelaw22.RetryLimits', WHERE WHAT IT READS IS OF BULK AT MOST 1048576: true; the input reads as it did. -/
def retryLimitsUptoRow : OpenClaim := { program := "ytpmfojnccfnleaa", sum := "b5c30e8ae6fe81d0f4914c09f98dc5e5a9b9febad208ab033014625a6286f34f", func := "grapevine/grapevinelaw22.RetryLimits", spec := "retryLimits", apart := false, narrowed := true }
def RetryLimitsUptoSaid : Prop := retryLimitsUptoRow.holds Try.pinned (OpenSpec.upto retryLimitsSpec)

/-- 'grapevinelaw22.RetryParts', WHERE WHAT IT READS IS OF BULK AT MOST 1048576: true; the input reads as it did. -/
def retryPartsUptoRow : OpenClaim := { program := "ytpmfojnccfnleaa", sum := "b5c30e8ae6fe81d0f4914c09f98dc5e5a9b9febad208ab033014625a6286f34f", func := "grapevine/grapevinelaw22.RetryParts", spec := "retryParts", apart := false, narrowed := true }
def RetryPartsUptoSaid : Prop := retryPartsUptoRow.holds Try.pinned (OpenSpec.upto retryPartsSpec)

/-- 'grapevinelaw22.RetryDoubles', WHERE WHAT IT READS IS OF BULK AT MOST 1048576: true; the input reads as it did. -/
def retryDoublesUptoRow : OpenClaim := { program := "ytpmfojnccfnleaa", sum := "b5c30e8ae6fe81d0f4914c09f98dc5e5a9b9febad208ab033014625a6286f34f", func := "grapevine/grapevinelaw22.RetryDoubles", spec := "retryDoubles", apart := false, narrowed := true }
def RetryDoublesUptoSaid : Prop := retryDoublesUptoRow.holds Try.pinned (OpenSpec.upto retryDoublesSpec)

/-- 'grapevinelaw09.MergeLines', WHERE WHAT IT READS IS OF BULK AT MOST 1048576: true; the input reads as it did. -/
def mergeLinesUptoRow : OpenClaim := { program := "ytpmfojnccfnleaa", sum := "b5c30e8ae6fe81d0f4914c09f98dc5e5a9b9febad208ab033014625a6286f34f", func := "grapevine/grapevinelaw09.MergeLines", spec := "mergeLines", inPlace := ["internal/bytealg.IndexByteString", "internal/bytealg.IndexString", "internal/abi.NoEscape", "internal/bytealg.MakeNoZero"], unfollowed := true, recurses := true, named := ["internal/bytealg.MaxLen"], apart := false, narrowed := true }
def MergeLinesUptoSaid : Prop := mergeLinesUptoRow.holds Try.pinned (OpenSpec.upto mergeLinesSpec)

/-- 'grapevinelaw09.MergeTexts', WHERE WHAT IT READS IS OF BULK AT MOST 1048576: true; the input reads as it did. -/
def mergeTextsUptoRow : OpenClaim := { program := "ytpmfojnccfnleaa", sum := "b5c30e8ae6fe81d0f4914c09f98dc5e5a9b9febad208ab033014625a6286f34f", func := "grapevine/grapevinelaw09.MergeTexts", spec := "mergeTexts", inPlace := ["internal/bytealg.IndexByteString", "internal/bytealg.IndexString", "internal/abi.NoEscape", "internal/bytealg.MakeNoZero"], unfollowed := true, recurses := true, named := ["internal/bytealg.MaxLen"], apart := false, narrowed := true }
def MergeTextsUptoSaid : Prop := mergeTextsUptoRow.holds Try.pinned (OpenSpec.upto mergeTextsSpec)

/-- 'grapevinelaw09.MergeOne', WHERE WHAT IT READS IS OF BULK AT MOST 1048576: true; the input reads as it did. -/
def mergeOneUptoRow : OpenClaim := { program := "ytpmfojnccfnleaa", sum := "b5c30e8ae6fe81d0f4914c09f98dc5e5a9b9febad208ab033014625a6286f34f", func := "grapevine/grapevinelaw09.MergeOne", spec := "mergeOne", inPlace := ["internal/bytealg.IndexByteString", "internal/bytealg.IndexString", "internal/abi.NoEscape", "internal/bytealg.MakeNoZero"], unfollowed := true, recurses := true, named := ["internal/bytealg.MaxLen"], apart := false, narrowed := true }
def MergeOneUptoSaid : Prop := mergeOneUptoRow.holds Try.pinned (OpenSpec.upto mergeOneSpec)

/-- 'grapevinelaw09.MergeSides', WHERE WHAT IT READS IS OF BULK AT MOST 1048576: true; the input reads as it did. -/
def mergeSidesUptoRow : OpenClaim := { program := "ytpmfojnccfnleaa", sum := "b5c30e8ae6fe81d0f4914c09f98dc5e5a9b9febad208ab033014625a6286f34f", func := "grapevine/grapevinelaw09.MergeSides", spec := "mergeSides", inPlace := ["internal/bytealg.IndexByteString", "internal/bytealg.IndexString", "internal/abi.NoEscape", "internal/bytealg.MakeNoZero"], unfollowed := true, recurses := true, named := ["internal/bytealg.MaxLen"], apart := false, narrowed := true }
def MergeSidesUptoSaid : Prop := mergeSidesUptoRow.holds Try.pinned (OpenSpec.upto mergeSidesSpec)

/-- 'grapevinelaw09.MergeKeeps', WHERE WHAT IT READS IS OF BULK AT MOST 1048576: true; the input reads as it did. -/
def mergeKeepsUptoRow : OpenClaim := { program := "ytpmfojnccfnleaa", sum := "b5c30e8ae6fe81d0f4914c09f98dc5e5a9b9febad208ab033014625a6286f34f", func := "grapevine/grapevinelaw09.MergeKeeps", spec := "mergeKeeps", inPlace := ["internal/bytealg.IndexByteString", "internal/bytealg.IndexString", "internal/abi.NoEscape", "internal/bytealg.MakeNoZero"], unfollowed := true, recurses := true, named := ["internal/bytealg.MaxLen"], apart := false, narrowed := true }
def MergeKeepsUptoSaid : Prop := mergeKeepsUptoRow.holds Try.pinned (OpenSpec.upto mergeKeepsSpec)

/-- 'grapevinelaw15.DagHeads', WHERE WHAT IT READS IS OF BULK AT MOST 1048576: true; the input reads as it did. -/
def dagHeadsUptoRow : OpenClaim := { program := "ytpmfojnccfnleaa", sum := "b5c30e8ae6fe81d0f4914c09f98dc5e5a9b9febad208ab033014625a6286f34f", func := "grapevine/grapevinelaw15.DagHeads", spec := "dagHeads", inPlace := ["maps.clone"], unfollowed := true, recurses := true, apart := false, narrowed := true }
def DagHeadsUptoSaid : Prop := dagHeadsUptoRow.holds Try.pinned (OpenSpec.upto dagHeadsSpec)

/-- 'grapevinelaw15.DagChain', WHERE WHAT IT READS IS OF BULK AT MOST 1048576: true; the input reads as it did. -/
def dagChainUptoRow : OpenClaim := { program := "ytpmfojnccfnleaa", sum := "b5c30e8ae6fe81d0f4914c09f98dc5e5a9b9febad208ab033014625a6286f34f", func := "grapevine/grapevinelaw15.DagChain", spec := "dagChain", inPlace := ["maps.clone"], unfollowed := true, recurses := true, apart := false, narrowed := true }
def DagChainUptoSaid : Prop := dagChainUptoRow.holds Try.pinned (OpenSpec.upto dagChainSpec)

/-- 'grapevinelaw15.DagPlays', WHERE WHAT IT READS IS OF BULK AT MOST 1048576: true; the input reads as it did. -/
def dagPlaysUptoRow : OpenClaim := { program := "ytpmfojnccfnleaa", sum := "b5c30e8ae6fe81d0f4914c09f98dc5e5a9b9febad208ab033014625a6286f34f", func := "grapevine/grapevinelaw15.DagPlays", spec := "dagPlays", inPlace := ["maps.clone"], unfollowed := true, recurses := true, apart := false, narrowed := true }
def DagPlaysUptoSaid : Prop := dagPlaysUptoRow.holds Try.pinned (OpenSpec.upto dagPlaysSpec)

/-- 'grapevinelaw15.DagClosed', WHERE WHAT IT READS IS OF BULK AT MOST 1048576: true; the input reads as it did. -/
def dagClosedUptoRow : OpenClaim := { program := "ytpmfojnccfnleaa", sum := "b5c30e8ae6fe81d0f4914c09f98dc5e5a9b9febad208ab033014625a6286f34f", func := "grapevine/grapevinelaw15.DagClosed", spec := "dagClosed", inPlace := ["maps.clone"], unfollowed := true, recurses := true, apart := false, narrowed := true }
def DagClosedUptoSaid : Prop := dagClosedUptoRow.holds Try.pinned (OpenSpec.upto dagClosedSpec)

/-- 'grapevinelaw15.DagTwice', WHERE WHAT IT READS IS OF BULK AT MOST 1048576: true; the input reads as it did. -/
def dagTwiceUptoRow : OpenClaim := { program := "ytpmfojnccfnleaa", sum := "b5c30e8ae6fe81d0f4914c09f98dc5e5a9b9febad208ab033014625a6286f34f", func := "grapevine/grapevinelaw15.DagTwice", spec := "dagTwice", inPlace := ["maps.clone"], unfollowed := true, recurses := true, apart := false, narrowed := true }
def DagTwiceUptoSaid : Prop := dagTwiceUptoRow.holds Try.pinned (OpenSpec.upto dagTwiceSpec)

end Rows
end Go.Proofs.Ytpmfojnccfnleaa
