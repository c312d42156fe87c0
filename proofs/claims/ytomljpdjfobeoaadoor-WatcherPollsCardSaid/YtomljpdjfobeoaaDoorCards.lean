/-
  DERIVED. GIVEN WITH THE SEED: THE CARDS: each row of YtomljpdjfobeoaaDoorRows.lean that lists a variable, with what it lists TIED to the program's text (the seventh form; the later family's looks); each row that meets fmt, with fmt's text TOLD by the authors' own Lean function (tested against real Go, not proved from fmt's source: count such statements apart). THE CARD IS WHAT COUNTS. Prove the row's statement (the work); the ties are given (YtomljpdjfobeoaaDoorTie.lean); close each card by the builder's one call (the guide's Derived/Test/ToyasCard.lean, 'card_holds'). Laid BY PROGRAM, IN A SANDBOX (cutbox-door.mjs). By AI agents, Wed Nov 11 2026. No macro, syntax, notation, axiom, sorry.
-/
import Derived.Test.YtomljpdjfobeoaaDoorRows
import GoSem.ClaimSeven
namespace Go.Proofs.YtomljpdjfobeoaaDoor
namespace Rows

/-- THE TIED CARD OF 'estuarylaw24.WatcherOver'. -/
def watcherOverCard : Claim7 := { stood := { row := watcherOverRow, standIns := [], harness := (true, "fc9f041fc9623667b7b52a1514fb25a874ebdde2cacd7b665629b22dac3103d4"), looks := true }, kinds := [], alts := [], laidByText := true, laidKinds := [.handle], laidTests := true, laidLooks := .later }
def WatcherOverCardSaid : Prop := Claim7.holds Tryd.pinned (.plain (OpenSpec.ofChange watcherOverSpec)) watcherOverCard

/-- THE TIED CARD OF 'estuarylaw24.WatcherPolls'. -/
def watcherPollsCard : Claim7 := { stood := { row := watcherPollsRow, standIns := [], harness := (true, "fc9f041fc9623667b7b52a1514fb25a874ebdde2cacd7b665629b22dac3103d4"), looks := true }, kinds := [], alts := [], laidByText := true, laidKinds := [.handle], laidTests := true, laidLooks := .later }
def WatcherPollsCardSaid : Prop := Claim7.holds Tryd.pinned (.plain (OpenSpec.ofChange watcherPollsSpec)) watcherPollsCard

/-- THE TIED CARD OF 'estuarylaw24.WatcherMany'. -/
def watcherManyCard : Claim7 := { stood := { row := watcherManyRow, standIns := [], harness := (true, "fc9f041fc9623667b7b52a1514fb25a874ebdde2cacd7b665629b22dac3103d4"), looks := true }, kinds := [], alts := [], laidByText := true, laidKinds := [.handle], laidTests := true, laidLooks := .later }
def WatcherManyCardSaid : Prop := Claim7.holds Tryd.pinned (.plain (OpenSpec.ofChange watcherManySpec)) watcherManyCard

/-- THE TIED CARD OF 'estuarylaw17.CutJoins'. -/
def cutJoinsCard : Claim7 := { stood := { row := cutJoinsRow, standIns := [], harness := (true, "fc9f041fc9623667b7b52a1514fb25a874ebdde2cacd7b665629b22dac3103d4"), looks := true }, kinds := [], alts := [], laidByText := true, laidKinds := [.handle], laidTests := true, laidLooks := .later }
def CutJoinsCardSaid : Prop := Claim7.holds Tryd.pinned (.plain (OpenSpec.ofChange cutJoinsSpec)) cutJoinsCard

/-- THE TIED CARD OF 'estuarylaw17.CutKeys'. -/
def cutKeysCard : Claim7 := { stood := { row := cutKeysRow, standIns := [], harness := (true, "fc9f041fc9623667b7b52a1514fb25a874ebdde2cacd7b665629b22dac3103d4"), looks := true }, kinds := [], alts := [], laidByText := true, laidKinds := [.handle], laidTests := true, laidLooks := .later }
def CutKeysCardSaid : Prop := Claim7.holds Tryd.pinned (.plain (OpenSpec.ofChange cutKeysSpec)) cutKeysCard

/-- THE SECOND FORM's CARD OF 'estuarylaw24.WatcherOver'. -/
def watcherOverUptoCard : Claim7 := { stood := { row := watcherOverUptoRow, standIns := [], harness := (true, "fc9f041fc9623667b7b52a1514fb25a874ebdde2cacd7b665629b22dac3103d4"), looks := true }, kinds := [], alts := [], laidByText := true, laidKinds := [.handle], laidTests := true, laidLooks := .later }
def WatcherOverUptoCardSaid : Prop := Claim7.holds Tryd.pinned (.plain (OpenSpec.upto watcherOverSpec)) watcherOverUptoCard

/-- THE SECOND FORM's CARD OF 'estuarylaw24.WatcherPolls'. -/
def watcherPollsUptoCard : Claim7 := { stood := { row := watcherPollsUptoRow, standIns := [], harness := (true, "fc9f041fc9623667b7b52a1514fb25a874ebdde2cacd7b665629b22dac3103d4"), looks := true }, kinds := [], alts := [], laidByText := true, laidKinds := [.handle], laidTests := true, laidLooks := .later }
def WatcherPollsUptoCardSaid : Prop := Claim7.holds Tryd.pinned (.plain (OpenSpec.upto watcherPollsSpec)) watcherPollsUptoCard

/-- THE SECOND FORM's CARD OF 'estuarylaw24.WatcherMany'. -/
def watcherManyUptoCard : Claim7 := { stood := { row := watcherManyUptoRow, standIns := [], harness := (true, "fc9f041fc9623667b7b52a1514fb25a874ebdde2cacd7b665629b22dac3103d4"), looks := true }, kinds := [], alts := [], laidByText := true, laidKinds := [.handle], laidTests := true, laidLooks := .later }
def WatcherManyUptoCardSaid : Prop := Claim7.holds Tryd.pinned (.plain (OpenSpec.upto watcherManySpec)) watcherManyUptoCard

/-- THE SECOND FORM's CARD OF 'estuarylaw17.CutJoins'. -/
def cutJoinsUptoCard : Claim7 := { stood := { row := cutJoinsUptoRow, standIns := [], harness := (true, "fc9f041fc9623667b7b52a1514fb25a874ebdde2cacd7b665629b22dac3103d4"), looks := true }, kinds := [], alts := [], laidByText := true, laidKinds := [.handle], laidTests := true, laidLooks := .later }
def CutJoinsUptoCardSaid : Prop := Claim7.holds Tryd.pinned (.plain (OpenSpec.upto cutJoinsSpec)) cutJoinsUptoCard

/-- THE SECOND FORM's CARD OF 'estuarylaw17.CutKeys'. -/
def cutKeysUptoCard : Claim7 := { stood := { row := cutKeysUptoRow, standIns := [], harness := (true, "fc9f041fc9623667b7b52a1514fb25a874ebdde2cacd7b665629b22dac3103d4"), looks := true }, kinds := [], alts := [], laidByText := true, laidKinds := [.handle], laidTests := true, laidLooks := .later }
def CutKeysUptoCardSaid : Prop := Claim7.holds Tryd.pinned (.plain (OpenSpec.upto cutKeysSpec)) cutKeysUptoCard
end Rows
end Go.Proofs.YtomljpdjfobeoaaDoor
