/-
  No cell of these rows narrows 'for every input' (looked for: loops, veiled, ifaces, maps, wideKeys, modest, calm, conditions, laid).
  DERIVED. THE GIVEN ROWS OF THIS SEAT. 4 by the template 'for every input the law returns true; each argument reads behind the call as it read before'; 0 by the template 'total and deterministic' (their statements: YtekeiieefkgopaaTotals.lean).
  GIVEN WITH THE SEED: the statements are not yours to turn. If you find one false, say at which input.
  Laid BY PROGRAM, IN A SANDBOX (cutbox-rows.mjs): the forced cells as the released guide's own fill.sh prints them over the translation fdb73b38e82cb976… (all of the seat's roots in one cut). By AI agents, Wed Nov 11 2026. No macro, syntax, notation, axiom, sorry.
-/
import Derived.Test.YtekeiieefkgopaaChecked
import GoSem.Claim
import GoSem.ClaimJoined
import GoSem.ClaimMapViews
import Derived.JoinedTies
import Derived.KernelRfl
namespace Go.Proofs.Ytekeiieefkgopaa
/- THE CELL 'sum', in the pinned program and in every row, IS THE sha256 OF THE DUMP (.gsa) THAT YtekeiieefkgopaaProg.lean LOADS. Nothing in Lean hashes anything: it is a label: what it is worth is what the hold of that sum in a sandbox is worth. -/
noncomputable def Try.pinned : Pinned := { name := "ytekeiieefkgopaa", sum := "fdb73b38e82cb976a7c53f61a1608834bbd55072523744d0979c2d1dfc2a14bf", checked := Try.checked }
namespace Rows
def none {H : Type} : Left H := { results := [], args := [] }

/-- 'grapevinelaw11.BlendTells': WHATEVER THE INPUT: true; the input reads as it did. -/
def blendTellsSpec : ChangeSpec := { name := "blendTells", fn := fun _ => fun
  | [d1, d2, d3] => { results := [.lit (.bool true)], args := [d1, d2, d3] }
  | _ => none }
def blendTellsRow : OpenClaim := { program := "ytekeiieefkgopaa", sum := "fdb73b38e82cb976a7c53f61a1608834bbd55072523744d0979c2d1dfc2a14bf", func := "grapevine/grapevinelaw11.BlendTells", spec := "blendTells", inPlace := ["internal/bytealg.IndexByteString", "internal/bytealg.IndexString", "internal/abi.NoEscape", "internal/bytealg.MakeNoZero"], unfollowed := true, recurses := true, named := ["internal/bytealg.MaxLen"], apart := false }
def BlendTellsSaid : Prop := blendTellsRow.holds Try.pinned (OpenSpec.ofChange blendTellsSpec)

/-- ITS FALSE NEIGHBOUR: 'it returns false'. Refute it at one input. -/
def blendTellsWrong : ChangeSpec := { name := "blendTells", fn := fun _ => fun
  | [d1, d2, d3] => { results := [.lit (.bool false)], args := [d1, d2, d3] }
  | _ => none }
def BlendTellsWrongFalsely : Prop := blendTellsRow.holds Try.pinned (OpenSpec.ofChange blendTellsWrong)

/-- 'grapevinelaw11.BlendLong': WHATEVER THE INPUT: true; the input reads as it did. -/
def blendLongSpec : ChangeSpec := { name := "blendLong", fn := fun _ => fun
  | [d1, d2, d3, d4] => { results := [.lit (.bool true)], args := [d1, d2, d3, d4] }
  | _ => none }
def blendLongRow : OpenClaim := { program := "ytekeiieefkgopaa", sum := "fdb73b38e82cb976a7c53f61a1608834bbd55072523744d0979c2d1dfc2a14bf", func := "grapevine/grapevinelaw11.BlendLong", spec := "blendLong", inPlace := ["internal/bytealg.IndexByteString", "internal/bytealg.IndexString", "internal/abi.NoEscape", "internal/bytealg.MakeNoZero"], unfollowed := true, recurses := true, named := ["internal/bytealg.MaxLen"], apart := false }
def BlendLongSaid : Prop := blendLongRow.holds Try.pinned (OpenSpec.ofChange blendLongSpec)

/-- ITS FALSE NEIGHBOUR: 'it returns false'. Refute it at one input. -/
def blendLongWrong : ChangeSpec := { name := "blendLong", fn := fun _ => fun
  | [d1, d2, d3, d4] => { results := [.lit (.bool false)], args := [d1, d2, d3, d4] }
  | _ => none }
def BlendLongWrongFalsely : Prop := blendLongRow.holds Try.pinned (OpenSpec.ofChange blendLongWrong)

/-- 'grapevinelaw11.BlendOne': WHATEVER THE INPUT: true; the input reads as it did. -/
def blendOneSpec : ChangeSpec := { name := "blendOne", fn := fun _ => fun
  | [d1, d2] => { results := [.lit (.bool true)], args := [d1, d2] }
  | _ => none }
def blendOneRow : OpenClaim := { program := "ytekeiieefkgopaa", sum := "fdb73b38e82cb976a7c53f61a1608834bbd55072523744d0979c2d1dfc2a14bf", func := "grapevine/grapevinelaw11.BlendOne", spec := "blendOne", inPlace := ["internal/bytealg.IndexByteString", "internal/bytealg.IndexString", "internal/abi.NoEscape", "internal/bytealg.MakeNoZero"], unfollowed := true, recurses := true, named := ["internal/bytealg.MaxLen"], apart := false }
def BlendOneSaid : Prop := blendOneRow.holds Try.pinned (OpenSpec.ofChange blendOneSpec)

/-- ITS FALSE NEIGHBOUR: 'it returns false'. Refute it at one input. -/
def blendOneWrong : ChangeSpec := { name := "blendOne", fn := fun _ => fun
  | [d1, d2] => { results := [.lit (.bool false)], args := [d1, d2] }
  | _ => none }
def BlendOneWrongFalsely : Prop := blendOneRow.holds Try.pinned (OpenSpec.ofChange blendOneWrong)

/-- 'grapevinelaw11.BlendSides': WHATEVER THE INPUT: true; the input reads as it did. -/
def blendSidesSpec : ChangeSpec := { name := "blendSides", fn := fun _ => fun
  | [d1, d2, d3] => { results := [.lit (.bool true)], args := [d1, d2, d3] }
  | _ => none }
def blendSidesRow : OpenClaim := { program := "ytekeiieefkgopaa", sum := "fdb73b38e82cb976a7c53f61a1608834bbd55072523744d0979c2d1dfc2a14bf", func := "grapevine/grapevinelaw11.BlendSides", spec := "blendSides", inPlace := ["internal/bytealg.IndexByteString", "internal/bytealg.IndexString", "internal/abi.NoEscape", "internal/bytealg.MakeNoZero"], unfollowed := true, recurses := true, named := ["internal/bytealg.MaxLen"], apart := false }
def BlendSidesSaid : Prop := blendSidesRow.holds Try.pinned (OpenSpec.ofChange blendSidesSpec)

/-- ITS FALSE NEIGHBOUR: 'it returns false'. Refute it at one input. -/
def blendSidesWrong : ChangeSpec := { name := "blendSides", fn := fun _ => fun
  | [d1, d2, d3] => { results := [.lit (.bool false)], args := [d1, d2, d3] }
  | _ => none }
def BlendSidesWrongFalsely : Prop := blendSidesRow.holds Try.pinned (OpenSpec.ofChange blendSidesWrong)

/- THE SECOND FORM. 'bulk': how many values and letters a reading holds, each counted each time it is reached (what is shared counts as often as it is met; a slice's spare places count too). A statement '..UptoSaid' is the law's where the arguments, and the package variables that the reading takes, are together of bulk at most 1048576: NARROWER than '..Said'. Prove '..Said' where nothing that the law and all that it calls make is longer than what came in: it says more and counts as full. Else prove '..UptoSaid'. A law counts once. -/
mutual
def uptoBulk {H : Type} : DataW H → Nat
  | .lit (.string bytes) => bytes.length + 1
  | .lit _ => 1
  | .nil => 1
  | .ptr d => uptoBulk d + 1
  | .slice elems spare => uptoBulkAll elems + uptoBulkAll spare + 1
  | .agg parts => uptoBulkAll parts + 1
  | .iface _ d => uptoBulk d + 1
  | .map entries => uptoBulkEntries entries + 1
  | .held _ => 1
def uptoBulkAll {H : Type} : List (DataW H) → Nat
  | [] => 0
  | d :: r => uptoBulk d + uptoBulkAll r
def uptoBulkEntries {H : Type} : List (Lit × DataW H) → Nat
  | [] => 0
  | x :: r => uptoBulkEntry x + uptoBulkEntries r
def uptoBulkEntry {H : Type} : Lit × DataW H → Nat
  | (.string bytes, d) => bytes.length + uptoBulk d + 1
  | (_, d) => uptoBulk d + 1
 end
def uptoSmall : (H : Type) → List (DataW H) → Bool := fun _ ds => decide (uptoBulkAll ds ≤ 1048576)
def OpenSpec.upto (s : _root_.Go.ChangeSpec) : _root_.Go.OpenSpec := { _root_.Go.OpenSpec.ofChange s with cond := some uptoSmall }

/-- 'grapevinelaw11.BlendTells', WHERE WHAT IT READS IS OF BULK AT MOST 1048576: true; the input reads as it did. -/
def blendTellsUptoRow : OpenClaim := { program := "ytekeiieefkgopaa", sum := "fdb73b38e82cb976a7c53f61a1608834bbd55072523744d0979c2d1dfc2a14bf", func := "grapevine/grapevinelaw11.BlendTells", spec := "blendTells", inPlace := ["internal/bytealg.IndexByteString", "internal/bytealg.IndexString", "internal/abi.NoEscape", "internal/bytealg.MakeNoZero"], unfollowed := true, recurses := true, named := ["internal/bytealg.MaxLen"], apart := false, narrowed := true }
def BlendTellsUptoSaid : Prop := blendTellsUptoRow.holds Try.pinned (OpenSpec.upto blendTellsSpec)

/-- 'grapevinelaw11.BlendLong', WHERE WHAT IT READS IS OF BULK AT MOST 1048576: true; the input reads as it did. -/
def blendLongUptoRow : OpenClaim := { program := "ytekeiieefkgopaa", sum := "fdb73b38e82cb976a7c53f61a1608834bbd55072523744d0979c2d1dfc2a14bf", func := "grapevine/grapevinelaw11.BlendLong", spec := "blendLong", inPlace := ["internal/bytealg.IndexByteString", "internal/bytealg.IndexString", "internal/abi.NoEscape", "internal/bytealg.MakeNoZero"], unfollowed := true, recurses := true, named := ["internal/bytealg.MaxLen"], apart := false, narrowed := true }
def BlendLongUptoSaid : Prop := blendLongUptoRow.holds Try.pinned (OpenSpec.upto blendLongSpec)

/-- 'grapevinelaw11.BlendOne', WHERE WHAT IT READS IS OF BULK AT MOST 1048576: true; the input reads as it did. -/
def blendOneUptoRow : OpenClaim := { program := "ytekeiieefkgopaa", sum := "fdb73b38e82cb976a7c53f61a1608834bbd55072523744d0979c2d1dfc2a14bf", func := "grapevine/grapevinelaw11.BlendOne", spec := "blendOne", inPlace := ["internal/bytealg.IndexByteString", "internal/bytealg.IndexString", "internal/abi.NoEscape", "internal/bytealg.MakeNoZero"], unfollowed := true, recurses := true, named := ["internal/bytealg.MaxLen"], apart := false, narrowed := true }
def BlendOneUptoSaid : Prop := blendOneUptoRow.holds Try.pinned (OpenSpec.upto blendOneSpec)

/-- 'grapevinelaw11.BlendSides', WHERE WHAT IT READS IS OF BULK AT MOST 1048576: true; the input reads as it did. -/
def blendSidesUptoRow : OpenClaim := { program := "ytekeiieefkgopaa", sum := "fdb73b38e82cb976a7c53f61a1608834bbd55072523744d0979c2d1dfc2a14bf", func := "grapevine/grapevinelaw11.BlendSides", spec := "blendSides", inPlace := ["internal/bytealg.IndexByteString", "internal/bytealg.IndexString", "internal/abi.NoEscape", "internal/bytealg.MakeNoZero"], unfollowed := true, recurses := true, named := ["internal/bytealg.MaxLen"], apart := false, narrowed := true }
def BlendSidesUptoSaid : Prop := blendSidesUptoRow.holds Try.pinned (OpenSpec.upto blendSidesSpec)

end Rows
end Go.Proofs.Ytekeiieefkgopaa
