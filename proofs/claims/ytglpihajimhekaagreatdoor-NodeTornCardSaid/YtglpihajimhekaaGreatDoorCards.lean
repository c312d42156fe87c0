/-
  DERIVED. GIVEN WITH THE SEED: THE CARDS: each row of YtglpihajimhekaaGreatDoorRows.lean that lists a variable, with what it lists TIED to the program's text (the seventh form; the later family's looks); each row that meets fmt, with fmt's text TOLD by the authors' own Lean function (tested against real Go, not proved from fmt's source: count such statements apart). THE CARD IS WHAT COUNTS. Prove the row's statement (the work); the ties are given (YtglpihajimhekaaGreatDoorTie.lean); close each card by the builder's one call (the guide's Derived/Test/ToyasCard.lean, 'card_holds'). Laid BY PROGRAM, IN A SANDBOX (cutbox-door.mjs). By AI agents, Wed Nov 11 2026. No macro, syntax, notation, axiom, sorry.
-/
import Derived.Test.YtglpihajimhekaaGreatDoorRows
import GoSem.ClaimSeven
namespace Go.Proofs.YtglpihajimhekaaGreatDoor
namespace Rows

/-- THE TIED CARD OF 'estuarylaw19.NodeTorn'. -/
def nodeTornCard : Claim7 := { stood := { row := nodeTornRow, standIns := [], harness := (true, "0e9618a90dc4a223acef1df54becf7dae7513b4920495d46bbfafb6cc809e8a7"), looks := true }, kinds := [], alts := [], laidByText := true, laidKinds := [.handle], laidTests := true, laidLooks := .later }
def NodeTornCardSaid : Prop := Claim7.holds Tryz.pinned (.plain (OpenSpec.ofChange nodeTornSpec)) nodeTornCard

/-- THE TIED CARD OF 'estuarylaw19.NodeWaits'. -/
def nodeWaitsCard : Claim7 := { stood := { row := nodeWaitsRow, standIns := [], harness := (true, "0e9618a90dc4a223acef1df54becf7dae7513b4920495d46bbfafb6cc809e8a7"), looks := true }, kinds := [], alts := [], laidByText := true, laidKinds := [.handle], laidTests := true, laidLooks := .later }
def NodeWaitsCardSaid : Prop := Claim7.holds Tryz.pinned (.plain (OpenSpec.ofChange nodeWaitsSpec)) nodeWaitsCard

/-- THE SECOND FORM's CARD OF 'estuarylaw19.NodeTorn'. -/
def nodeTornUptoCard : Claim7 := { stood := { row := nodeTornUptoRow, standIns := [], harness := (true, "0e9618a90dc4a223acef1df54becf7dae7513b4920495d46bbfafb6cc809e8a7"), looks := true }, kinds := [], alts := [], laidByText := true, laidKinds := [.handle], laidTests := true, laidLooks := .later }
def NodeTornUptoCardSaid : Prop := Claim7.holds Tryz.pinned (.plain (OpenSpec.upto nodeTornSpec)) nodeTornUptoCard

/-- THE SECOND FORM's CARD OF 'estuarylaw19.NodeWaits'. -/
def nodeWaitsUptoCard : Claim7 := { stood := { row := nodeWaitsUptoRow, standIns := [], harness := (true, "0e9618a90dc4a223acef1df54becf7dae7513b4920495d46bbfafb6cc809e8a7"), looks := true }, kinds := [], alts := [], laidByText := true, laidKinds := [.handle], laidTests := true, laidLooks := .later }
def NodeWaitsUptoCardSaid : Prop := Claim7.holds Tryz.pinned (.plain (OpenSpec.upto nodeWaitsSpec)) nodeWaitsUptoCard
end Rows
end Go.Proofs.YtglpihajimhekaaGreatDoor
