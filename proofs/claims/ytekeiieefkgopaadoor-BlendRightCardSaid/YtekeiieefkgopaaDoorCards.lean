/-
  DERIVED. GIVEN WITH THE SEED: THE CARDS: each row of YtekeiieefkgopaaDoorRows.lean that lists a variable, with what it lists TIED to the program's text (the seventh form; the later family's looks); each row that meets fmt, with fmt's text TOLD by the authors' own Lean function (tested against real Go, not proved from fmt's source: count such statements apart). THE CARD IS WHAT COUNTS. Prove the row's statement (the work); the ties are given (YtekeiieefkgopaaDoorTie.lean); close each card by the builder's one call (the guide's Derived/Test/ToyasCard.lean, 'card_holds'). Laid BY PROGRAM, IN A SANDBOX (cutbox-door.mjs). By AI agents, Wed Nov 11 2026. No macro, syntax, notation, axiom, sorry.
-/
import Derived.Test.YtekeiieefkgopaaDoorRows
import GoSem.ClaimSeven
namespace Go.Proofs.YtekeiieefkgopaaDoor
namespace Rows

/-- THE TIED CARD OF 'grapevinelaw11.BlendRight'. -/
def blendRightCard : Claim7 := { stood := { row := blendRightRow, standIns := [], harness := (true, "1ee5bc32f5ee533a0938133a302bb167a0af69a8a6c2a54e6b659fe8cebba443"), looks := false }, kinds := [], alts := [], laidByText := true, laidKinds := [.data, .pinned], laidTests := true, laidLooks := .later }
def BlendRightCardSaid : Prop := Claim7.holds Tryd.pinned (.plain (OpenSpec.ofChange blendRightSpec)) blendRightCard

/-- THE TIED CARD OF 'grapevinelaw10.TreePaths'. -/
def treePathsCard : Claim7 := { stood := { row := treePathsRow, standIns := [], harness := (true, "1ee5bc32f5ee533a0938133a302bb167a0af69a8a6c2a54e6b659fe8cebba443"), looks := false }, kinds := [], alts := [], laidByText := true, laidKinds := [.data, .data, .data, .pinned], laidTests := true, laidLooks := .later }
def TreePathsCardSaid : Prop := Claim7.holds Tryd.pinned (.plain (OpenSpec.ofChange treePathsSpec)) treePathsCard

/-- THE TIED CARD OF 'grapevinelaw10.TreeDecodes'. -/
def treeDecodesCard : Claim7 := { stood := { row := treeDecodesRow, standIns := [], harness := (true, "1ee5bc32f5ee533a0938133a302bb167a0af69a8a6c2a54e6b659fe8cebba443"), looks := false }, kinds := [], alts := [], laidByText := true, laidKinds := [.data, .data, .data, .pinned], laidTests := true, laidLooks := .later }
def TreeDecodesCardSaid : Prop := Claim7.holds Tryd.pinned (.plain (OpenSpec.ofChange treeDecodesSpec)) treeDecodesCard

/-- THE TIED CARD OF 'grapevinelaw10.TreeTurns'. -/
def treeTurnsCard : Claim7 := { stood := { row := treeTurnsRow, standIns := [], harness := (true, "1ee5bc32f5ee533a0938133a302bb167a0af69a8a6c2a54e6b659fe8cebba443"), looks := false }, kinds := [], alts := [], laidByText := true, laidKinds := [.data, .data, .data, .pinned], laidTests := true, laidLooks := .later }
def TreeTurnsCardSaid : Prop := Claim7.holds Tryd.pinned (.plain (OpenSpec.ofChange treeTurnsSpec)) treeTurnsCard

/-- THE TIED CARD OF 'grapevinelaw10.TreeFull'. -/
def treeFullCard : Claim7 := { stood := { row := treeFullRow, standIns := [], harness := (true, "1ee5bc32f5ee533a0938133a302bb167a0af69a8a6c2a54e6b659fe8cebba443"), looks := false }, kinds := [], alts := [], laidByText := true, laidKinds := [.data, .data, .data, .pinned], laidTests := true, laidLooks := .later }
def TreeFullCardSaid : Prop := Claim7.holds Tryd.pinned (.plain (OpenSpec.ofChange treeFullSpec)) treeFullCard

/-- THE TIED CARD OF 'grapevinelaw10.TreeBack'. -/
def treeBackCard : Claim7 := { stood := { row := treeBackRow, standIns := [], harness := (true, "1ee5bc32f5ee533a0938133a302bb167a0af69a8a6c2a54e6b659fe8cebba443"), looks := false }, kinds := [], alts := [], laidByText := true, laidKinds := [.data, .data, .data, .pinned], laidTests := true, laidLooks := .later }
def TreeBackCardSaid : Prop := Claim7.holds Tryd.pinned (.plain (OpenSpec.ofChange treeBackSpec)) treeBackCard

/-- THE TIED CARD OF 'grapevinelaw10.TreePuts'. -/
def treePutsCard : Claim7 := { stood := { row := treePutsRow, standIns := [], harness := (true, "1ee5bc32f5ee533a0938133a302bb167a0af69a8a6c2a54e6b659fe8cebba443"), looks := false }, kinds := [], alts := [], laidByText := true, laidKinds := [.data, .data, .data, .pinned], laidTests := true, laidLooks := .later }
def TreePutsCardSaid : Prop := Claim7.holds Tryd.pinned (.plain (OpenSpec.ofChange treePutsSpec)) treePutsCard

/-- THE TIED CARD OF 'grapevinelaw10.TreeDrops'. -/
def treeDropsCard : Claim7 := { stood := { row := treeDropsRow, standIns := [], harness := (true, "1ee5bc32f5ee533a0938133a302bb167a0af69a8a6c2a54e6b659fe8cebba443"), looks := false }, kinds := [], alts := [], laidByText := true, laidKinds := [.data, .data, .data, .pinned], laidTests := true, laidLooks := .later }
def TreeDropsCardSaid : Prop := Claim7.holds Tryd.pinned (.plain (OpenSpec.ofChange treeDropsSpec)) treeDropsCard

/-- THE SECOND FORM's CARD OF 'grapevinelaw11.BlendRight'. -/
def blendRightUptoCard : Claim7 := { stood := { row := blendRightUptoRow, standIns := [], harness := (true, "1ee5bc32f5ee533a0938133a302bb167a0af69a8a6c2a54e6b659fe8cebba443"), looks := false }, kinds := [], alts := [], laidByText := true, laidKinds := [.data, .pinned], laidTests := true, laidLooks := .later }
def BlendRightUptoCardSaid : Prop := Claim7.holds Tryd.pinned (.plain (OpenSpec.upto blendRightSpec)) blendRightUptoCard

/-- THE SECOND FORM's CARD OF 'grapevinelaw10.TreePaths'. -/
def treePathsUptoCard : Claim7 := { stood := { row := treePathsUptoRow, standIns := [], harness := (true, "1ee5bc32f5ee533a0938133a302bb167a0af69a8a6c2a54e6b659fe8cebba443"), looks := false }, kinds := [], alts := [], laidByText := true, laidKinds := [.data, .data, .data, .pinned], laidTests := true, laidLooks := .later }
def TreePathsUptoCardSaid : Prop := Claim7.holds Tryd.pinned (.plain (OpenSpec.upto treePathsSpec)) treePathsUptoCard

/-- THE SECOND FORM's CARD OF 'grapevinelaw10.TreeDecodes'. -/
def treeDecodesUptoCard : Claim7 := { stood := { row := treeDecodesUptoRow, standIns := [], harness := (true, "1ee5bc32f5ee533a0938133a302bb167a0af69a8a6c2a54e6b659fe8cebba443"), looks := false }, kinds := [], alts := [], laidByText := true, laidKinds := [.data, .data, .data, .pinned], laidTests := true, laidLooks := .later }
def TreeDecodesUptoCardSaid : Prop := Claim7.holds Tryd.pinned (.plain (OpenSpec.upto treeDecodesSpec)) treeDecodesUptoCard

/-- THE SECOND FORM's CARD OF 'grapevinelaw10.TreeTurns'. -/
def treeTurnsUptoCard : Claim7 := { stood := { row := treeTurnsUptoRow, standIns := [], harness := (true, "1ee5bc32f5ee533a0938133a302bb167a0af69a8a6c2a54e6b659fe8cebba443"), looks := false }, kinds := [], alts := [], laidByText := true, laidKinds := [.data, .data, .data, .pinned], laidTests := true, laidLooks := .later }
def TreeTurnsUptoCardSaid : Prop := Claim7.holds Tryd.pinned (.plain (OpenSpec.upto treeTurnsSpec)) treeTurnsUptoCard

/-- THE SECOND FORM's CARD OF 'grapevinelaw10.TreeFull'. -/
def treeFullUptoCard : Claim7 := { stood := { row := treeFullUptoRow, standIns := [], harness := (true, "1ee5bc32f5ee533a0938133a302bb167a0af69a8a6c2a54e6b659fe8cebba443"), looks := false }, kinds := [], alts := [], laidByText := true, laidKinds := [.data, .data, .data, .pinned], laidTests := true, laidLooks := .later }
def TreeFullUptoCardSaid : Prop := Claim7.holds Tryd.pinned (.plain (OpenSpec.upto treeFullSpec)) treeFullUptoCard

/-- THE SECOND FORM's CARD OF 'grapevinelaw10.TreeBack'. -/
def treeBackUptoCard : Claim7 := { stood := { row := treeBackUptoRow, standIns := [], harness := (true, "1ee5bc32f5ee533a0938133a302bb167a0af69a8a6c2a54e6b659fe8cebba443"), looks := false }, kinds := [], alts := [], laidByText := true, laidKinds := [.data, .data, .data, .pinned], laidTests := true, laidLooks := .later }
def TreeBackUptoCardSaid : Prop := Claim7.holds Tryd.pinned (.plain (OpenSpec.upto treeBackSpec)) treeBackUptoCard

/-- THE SECOND FORM's CARD OF 'grapevinelaw10.TreePuts'. -/
def treePutsUptoCard : Claim7 := { stood := { row := treePutsUptoRow, standIns := [], harness := (true, "1ee5bc32f5ee533a0938133a302bb167a0af69a8a6c2a54e6b659fe8cebba443"), looks := false }, kinds := [], alts := [], laidByText := true, laidKinds := [.data, .data, .data, .pinned], laidTests := true, laidLooks := .later }
def TreePutsUptoCardSaid : Prop := Claim7.holds Tryd.pinned (.plain (OpenSpec.upto treePutsSpec)) treePutsUptoCard

/-- THE SECOND FORM's CARD OF 'grapevinelaw10.TreeDrops'. -/
def treeDropsUptoCard : Claim7 := { stood := { row := treeDropsUptoRow, standIns := [], harness := (true, "1ee5bc32f5ee533a0938133a302bb167a0af69a8a6c2a54e6b659fe8cebba443"), looks := false }, kinds := [], alts := [], laidByText := true, laidKinds := [.data, .data, .data, .pinned], laidTests := true, laidLooks := .later }
def TreeDropsUptoCardSaid : Prop := Claim7.holds Tryd.pinned (.plain (OpenSpec.upto treeDropsSpec)) treeDropsUptoCard
end Rows
end Go.Proofs.YtekeiieefkgopaaDoor
