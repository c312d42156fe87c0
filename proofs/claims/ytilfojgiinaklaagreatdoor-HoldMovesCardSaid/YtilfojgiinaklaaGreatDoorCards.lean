/-
  DERIVED. GIVEN WITH THE SEED: THE CARDS: each row of YtilfojgiinaklaaGreatDoorRows.lean that lists a variable, with what it lists TIED to the program's text (the seventh form; the later family's looks); each row that meets fmt, with fmt's text TOLD by the authors' own Lean function (tested against real Go, not proved from fmt's source: count such statements apart). THE CARD IS WHAT COUNTS. Prove the row's statement (the work); the ties are given (YtilfojgiinaklaaGreatDoorTie.lean); close each card by the builder's one call (the guide's Derived/Test/ToyasCard.lean, 'card_holds'). Laid BY PROGRAM, IN A SANDBOX (cutbox-door.mjs). By AI agents, Wed Nov 11 2026. No macro, syntax, notation, axiom, sorry.
-/
import Derived.Test.YtilfojgiinaklaaGreatDoorRows
import GoSem.ClaimSeven
namespace Go.Proofs.YtilfojgiinaklaaGreatDoor
namespace Rows

/-- THE TIED CARD OF 'estuarylaw18.HoldBytes'. -/
def holdBytesCard : Claim7 := { stood := { row := holdBytesRow, standIns := [], harness := (true, "07e4dc1fb0ac7ddcf8fe38eb79f13fe0464751308e63272f0bf17a3b1bbdbf77"), looks := true }, kinds := [], alts := [], laidByText := true, laidKinds := [.handle], laidTests := true, laidLooks := .later }
def HoldBytesCardSaid : Prop := Claim7.holds Tryz.pinned (.plain (OpenSpec.ofChange holdBytesSpec)) holdBytesCard

/-- THE TIED CARD OF 'estuarylaw18.HoldMoves'. -/
def holdMovesCard : Claim7 := { stood := { row := holdMovesRow, standIns := [], harness := (true, "07e4dc1fb0ac7ddcf8fe38eb79f13fe0464751308e63272f0bf17a3b1bbdbf77"), looks := true }, kinds := [], alts := [], laidByText := true, laidKinds := [.handle], laidTests := true, laidLooks := .later }
def HoldMovesCardSaid : Prop := Claim7.holds Tryz.pinned (.plain (OpenSpec.ofChange holdMovesSpec)) holdMovesCard

/-- THE SECOND FORM's CARD OF 'estuarylaw18.HoldBytes'. -/
def holdBytesUptoCard : Claim7 := { stood := { row := holdBytesUptoRow, standIns := [], harness := (true, "07e4dc1fb0ac7ddcf8fe38eb79f13fe0464751308e63272f0bf17a3b1bbdbf77"), looks := true }, kinds := [], alts := [], laidByText := true, laidKinds := [.handle], laidTests := true, laidLooks := .later }
def HoldBytesUptoCardSaid : Prop := Claim7.holds Tryz.pinned (.plain (OpenSpec.upto holdBytesSpec)) holdBytesUptoCard

/-- THE SECOND FORM's CARD OF 'estuarylaw18.HoldMoves'. -/
def holdMovesUptoCard : Claim7 := { stood := { row := holdMovesUptoRow, standIns := [], harness := (true, "07e4dc1fb0ac7ddcf8fe38eb79f13fe0464751308e63272f0bf17a3b1bbdbf77"), looks := true }, kinds := [], alts := [], laidByText := true, laidKinds := [.handle], laidTests := true, laidLooks := .later }
def HoldMovesUptoCardSaid : Prop := Claim7.holds Tryz.pinned (.plain (OpenSpec.upto holdMovesSpec)) holdMovesUptoCard
end Rows
end Go.Proofs.YtilfojgiinaklaaGreatDoor
