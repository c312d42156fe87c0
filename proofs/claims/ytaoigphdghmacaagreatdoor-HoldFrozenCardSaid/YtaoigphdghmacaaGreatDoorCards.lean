/-
  DERIVED. GIVEN WITH THE SEED: THE CARDS: each row of YtaoigphdghmacaaGreatDoorRows.lean that lists a variable, with what it lists TIED to the program's text (the seventh form; the later family's looks); each row that meets fmt, with fmt's text TOLD by the authors' own Lean function (tested against real Go, not proved from fmt's source: count such statements apart). THE CARD IS WHAT COUNTS. Prove the row's statement (the work); the ties are given (YtaoigphdghmacaaGreatDoorTie.lean); close each card by the builder's one call (the guide's Derived/Test/ToyasCard.lean, 'card_holds'). Laid BY PROGRAM, IN A SANDBOX (cutbox-door.mjs). By AI agents, Wed Nov 11 2026. No macro, syntax, notation, axiom, sorry.
-/
import Derived.Test.YtaoigphdghmacaaGreatDoorRows
import GoSem.ClaimSeven
namespace Go.Proofs.YtaoigphdghmacaaGreatDoor
namespace Rows

/-- THE TIED CARD OF 'estuarylaw18.HoldFrozen'. -/
def holdFrozenCard : Claim7 := { stood := { row := holdFrozenRow, standIns := [], harness := (true, "4dfd3b78b73349bba224a25a8b5bdc5aa58694ed43e6cc7db3b3066d7cb0ec8c"), looks := true }, kinds := [], alts := [], laidByText := true, laidKinds := [.handle], laidTests := true, laidLooks := .later }
def HoldFrozenCardSaid : Prop := Claim7.holds Tryz.pinned (.plain (OpenSpec.ofChange holdFrozenSpec)) holdFrozenCard

/-- THE SECOND FORM's CARD OF 'estuarylaw18.HoldFrozen'. -/
def holdFrozenUptoCard : Claim7 := { stood := { row := holdFrozenUptoRow, standIns := [], harness := (true, "4dfd3b78b73349bba224a25a8b5bdc5aa58694ed43e6cc7db3b3066d7cb0ec8c"), looks := true }, kinds := [], alts := [], laidByText := true, laidKinds := [.handle], laidTests := true, laidLooks := .later }
def HoldFrozenUptoCardSaid : Prop := Claim7.holds Tryz.pinned (.plain (OpenSpec.upto holdFrozenSpec)) holdFrozenUptoCard
end Rows
end Go.Proofs.YtaoigphdghmacaaGreatDoor
