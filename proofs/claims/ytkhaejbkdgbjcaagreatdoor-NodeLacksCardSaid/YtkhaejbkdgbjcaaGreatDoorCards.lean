/-
  DERIVED. GIVEN WITH THE SEED: THE CARDS: each row of YtkhaejbkdgbjcaaGreatDoorRows.lean that lists a variable, with what it lists TIED to the program's text (the seventh form; the later family's looks); each row that meets fmt, with fmt's text TOLD by the authors' own Lean function (tested against real Go, not proved from fmt's source: count such statements apart). THE CARD IS WHAT COUNTS. Prove the row's statement (the work); the ties are given (YtkhaejbkdgbjcaaGreatDoorTie.lean); close each card by the builder's one call (the guide's Derived/Test/ToyasCard.lean, 'card_holds'). Laid BY PROGRAM, IN A SANDBOX (cutbox-door.mjs). By AI agents, Wed Nov 11 2026. No macro, syntax, notation, axiom, sorry.
-/
import Derived.Test.YtkhaejbkdgbjcaaGreatDoorRows
import GoSem.ClaimSeven
namespace Go.Proofs.YtkhaejbkdgbjcaaGreatDoor
namespace Rows

/-- THE TIED CARD OF 'estuarylaw19.NodeHands'. -/
def nodeHandsCard : Claim7 := { stood := { row := nodeHandsRow, standIns := [], harness := (true, "4ee87a4c94d67ea2aba13396dc0580873e597ed51b7717399966e41dd56fa703"), looks := true }, kinds := [], alts := [], laidByText := true, laidKinds := [.handle], laidTests := true, laidLooks := .later }
def NodeHandsCardSaid : Prop := Claim7.holds Tryz.pinned (.plain (OpenSpec.ofChange nodeHandsSpec)) nodeHandsCard

/-- THE TIED CARD OF 'estuarylaw19.NodeLacks'. -/
def nodeLacksCard : Claim7 := { stood := { row := nodeLacksRow, standIns := [], harness := (true, "4ee87a4c94d67ea2aba13396dc0580873e597ed51b7717399966e41dd56fa703"), looks := true }, kinds := [], alts := [], laidByText := true, laidKinds := [.handle], laidTests := true, laidLooks := .later }
def NodeLacksCardSaid : Prop := Claim7.holds Tryz.pinned (.plain (OpenSpec.ofChange nodeLacksSpec)) nodeLacksCard

/-- THE TIED CARD OF 'estuarylaw19.NodeStray'. -/
def nodeStrayCard : Claim7 := { stood := { row := nodeStrayRow, standIns := [], harness := (true, "4ee87a4c94d67ea2aba13396dc0580873e597ed51b7717399966e41dd56fa703"), looks := true }, kinds := [], alts := [], laidByText := true, laidKinds := [.handle], laidTests := true, laidLooks := .later }
def NodeStrayCardSaid : Prop := Claim7.holds Tryz.pinned (.plain (OpenSpec.ofChange nodeStraySpec)) nodeStrayCard

/-- THE TIED CARD OF 'estuarylaw19.NodeFeeds'. -/
def nodeFeedsCard : Claim7 := { stood := { row := nodeFeedsRow, standIns := [], harness := (true, "4ee87a4c94d67ea2aba13396dc0580873e597ed51b7717399966e41dd56fa703"), looks := true }, kinds := [], alts := [], laidByText := true, laidKinds := [.handle], laidTests := true, laidLooks := .later }
def NodeFeedsCardSaid : Prop := Claim7.holds Tryz.pinned (.plain (OpenSpec.ofChange nodeFeedsSpec)) nodeFeedsCard

/-- THE TIED CARD OF 'estuarylaw19.NodeCuts'. -/
def nodeCutsCard : Claim7 := { stood := { row := nodeCutsRow, standIns := [], harness := (true, "4ee87a4c94d67ea2aba13396dc0580873e597ed51b7717399966e41dd56fa703"), looks := true }, kinds := [], alts := [], laidByText := true, laidKinds := [.handle], laidTests := true, laidLooks := .later }
def NodeCutsCardSaid : Prop := Claim7.holds Tryz.pinned (.plain (OpenSpec.ofChange nodeCutsSpec)) nodeCutsCard

/-- THE SECOND FORM's CARD OF 'estuarylaw19.NodeHands'. -/
def nodeHandsUptoCard : Claim7 := { stood := { row := nodeHandsUptoRow, standIns := [], harness := (true, "4ee87a4c94d67ea2aba13396dc0580873e597ed51b7717399966e41dd56fa703"), looks := true }, kinds := [], alts := [], laidByText := true, laidKinds := [.handle], laidTests := true, laidLooks := .later }
def NodeHandsUptoCardSaid : Prop := Claim7.holds Tryz.pinned (.plain (OpenSpec.upto nodeHandsSpec)) nodeHandsUptoCard

/-- THE SECOND FORM's CARD OF 'estuarylaw19.NodeLacks'. -/
def nodeLacksUptoCard : Claim7 := { stood := { row := nodeLacksUptoRow, standIns := [], harness := (true, "4ee87a4c94d67ea2aba13396dc0580873e597ed51b7717399966e41dd56fa703"), looks := true }, kinds := [], alts := [], laidByText := true, laidKinds := [.handle], laidTests := true, laidLooks := .later }
def NodeLacksUptoCardSaid : Prop := Claim7.holds Tryz.pinned (.plain (OpenSpec.upto nodeLacksSpec)) nodeLacksUptoCard

/-- THE SECOND FORM's CARD OF 'estuarylaw19.NodeStray'. -/
def nodeStrayUptoCard : Claim7 := { stood := { row := nodeStrayUptoRow, standIns := [], harness := (true, "4ee87a4c94d67ea2aba13396dc0580873e597ed51b7717399966e41dd56fa703"), looks := true }, kinds := [], alts := [], laidByText := true, laidKinds := [.handle], laidTests := true, laidLooks := .later }
def NodeStrayUptoCardSaid : Prop := Claim7.holds Tryz.pinned (.plain (OpenSpec.upto nodeStraySpec)) nodeStrayUptoCard

/-- THE SECOND FORM's CARD OF 'estuarylaw19.NodeFeeds'. -/
def nodeFeedsUptoCard : Claim7 := { stood := { row := nodeFeedsUptoRow, standIns := [], harness := (true, "4ee87a4c94d67ea2aba13396dc0580873e597ed51b7717399966e41dd56fa703"), looks := true }, kinds := [], alts := [], laidByText := true, laidKinds := [.handle], laidTests := true, laidLooks := .later }
def NodeFeedsUptoCardSaid : Prop := Claim7.holds Tryz.pinned (.plain (OpenSpec.upto nodeFeedsSpec)) nodeFeedsUptoCard

/-- THE SECOND FORM's CARD OF 'estuarylaw19.NodeCuts'. -/
def nodeCutsUptoCard : Claim7 := { stood := { row := nodeCutsUptoRow, standIns := [], harness := (true, "4ee87a4c94d67ea2aba13396dc0580873e597ed51b7717399966e41dd56fa703"), looks := true }, kinds := [], alts := [], laidByText := true, laidKinds := [.handle], laidTests := true, laidLooks := .later }
def NodeCutsUptoCardSaid : Prop := Claim7.holds Tryz.pinned (.plain (OpenSpec.upto nodeCutsSpec)) nodeCutsUptoCard
end Rows
end Go.Proofs.YtkhaejbkdgbjcaaGreatDoor
