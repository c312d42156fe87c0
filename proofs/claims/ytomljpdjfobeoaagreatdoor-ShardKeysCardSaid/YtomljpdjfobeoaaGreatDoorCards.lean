/-
  DERIVED. GIVEN WITH THE SEED: THE CARDS: each row of YtomljpdjfobeoaaGreatDoorRows.lean that lists a variable, with what it lists TIED to the program's text (the seventh form; the later family's looks); each row that meets fmt, with fmt's text TOLD by the authors' own Lean function (tested against real Go, not proved from fmt's source: count such statements apart). THE CARD IS WHAT COUNTS. Prove the row's statement (the work); the ties are given (YtomljpdjfobeoaaGreatDoorTie.lean); close each card by the builder's one call (the guide's Derived/Test/ToyasCard.lean, 'card_holds'). Laid BY PROGRAM, IN A SANDBOX (cutbox-door.mjs). By AI agents, Wed Nov 11 2026. No macro, syntax, notation, axiom, sorry.
-/
import Derived.Test.YtomljpdjfobeoaaGreatDoorRows
import GoSem.ClaimSeven
namespace Go.Proofs.YtomljpdjfobeoaaGreatDoor
namespace Rows

/-- THE TIED CARD OF 'estuarylaw17.CutTells'. -/
def cutTellsCard : Claim7 := { stood := { row := cutTellsRow, standIns := [], harness := (true, "3cf6067e3ad2883650bb217490bf7562dacb71953a76982385b1ec95901d9eec"), looks := true }, kinds := [], alts := [], laidByText := true, laidKinds := [.handle], laidTests := true, laidLooks := .later }
def CutTellsCardSaid : Prop := Claim7.holds Tryz.pinned (.plain (OpenSpec.ofChange cutTellsSpec)) cutTellsCard

/-- THE TIED CARD OF 'estuarylaw17.CutOnce'. -/
def cutOnceCard : Claim7 := { stood := { row := cutOnceRow, standIns := [], harness := (true, "3cf6067e3ad2883650bb217490bf7562dacb71953a76982385b1ec95901d9eec"), looks := true }, kinds := [], alts := [], laidByText := true, laidKinds := [.handle], laidTests := true, laidLooks := .later }
def CutOnceCardSaid : Prop := Claim7.holds Tryz.pinned (.plain (OpenSpec.ofChange cutOnceSpec)) cutOnceCard

/-- THE TIED CARD OF 'estuarylaw15.ShardKeys'. -/
def shardKeysCard : Claim7 := { stood := { row := shardKeysRow, standIns := [], harness := (true, "3cf6067e3ad2883650bb217490bf7562dacb71953a76982385b1ec95901d9eec"), looks := true }, kinds := [], alts := [], laidByText := true, laidKinds := [.handle], laidTests := true, laidLooks := .later }
def ShardKeysCardSaid : Prop := Claim7.holds Tryz.pinned (.plain (OpenSpec.ofChange shardKeysSpec)) shardKeysCard

/-- THE TIED CARD OF 'estuarylaw15.ShardOnce'. -/
def shardOnceCard : Claim7 := { stood := { row := shardOnceRow, standIns := [], harness := (true, "3cf6067e3ad2883650bb217490bf7562dacb71953a76982385b1ec95901d9eec"), looks := true }, kinds := [], alts := [], laidByText := true, laidKinds := [.handle], laidTests := true, laidLooks := .later }
def ShardOnceCardSaid : Prop := Claim7.holds Tryz.pinned (.plain (OpenSpec.ofChange shardOnceSpec)) shardOnceCard

/-- THE TIED CARD OF 'estuarylaw15.ShardFull'. -/
def shardFullCard : Claim7 := { stood := { row := shardFullRow, standIns := [], harness := (true, "3cf6067e3ad2883650bb217490bf7562dacb71953a76982385b1ec95901d9eec"), looks := true }, kinds := [], alts := [], laidByText := true, laidKinds := [.handle], laidTests := true, laidLooks := .later }
def ShardFullCardSaid : Prop := Claim7.holds Tryz.pinned (.plain (OpenSpec.ofChange shardFullSpec)) shardFullCard

/-- THE TIED CARD OF 'estuarylaw15.ShardSets'. -/
def shardSetsCard : Claim7 := { stood := { row := shardSetsRow, standIns := [], harness := (true, "3cf6067e3ad2883650bb217490bf7562dacb71953a76982385b1ec95901d9eec"), looks := true }, kinds := [], alts := [], laidByText := true, laidKinds := [.handle], laidTests := true, laidLooks := .later }
def ShardSetsCardSaid : Prop := Claim7.holds Tryz.pinned (.plain (OpenSpec.ofChange shardSetsSpec)) shardSetsCard

/-- THE SECOND FORM's CARD OF 'estuarylaw17.CutTells'. -/
def cutTellsUptoCard : Claim7 := { stood := { row := cutTellsUptoRow, standIns := [], harness := (true, "3cf6067e3ad2883650bb217490bf7562dacb71953a76982385b1ec95901d9eec"), looks := true }, kinds := [], alts := [], laidByText := true, laidKinds := [.handle], laidTests := true, laidLooks := .later }
def CutTellsUptoCardSaid : Prop := Claim7.holds Tryz.pinned (.plain (OpenSpec.upto cutTellsSpec)) cutTellsUptoCard

/-- THE SECOND FORM's CARD OF 'estuarylaw17.CutOnce'. -/
def cutOnceUptoCard : Claim7 := { stood := { row := cutOnceUptoRow, standIns := [], harness := (true, "3cf6067e3ad2883650bb217490bf7562dacb71953a76982385b1ec95901d9eec"), looks := true }, kinds := [], alts := [], laidByText := true, laidKinds := [.handle], laidTests := true, laidLooks := .later }
def CutOnceUptoCardSaid : Prop := Claim7.holds Tryz.pinned (.plain (OpenSpec.upto cutOnceSpec)) cutOnceUptoCard

/-- THE SECOND FORM's CARD OF 'estuarylaw15.ShardKeys'. -/
def shardKeysUptoCard : Claim7 := { stood := { row := shardKeysUptoRow, standIns := [], harness := (true, "3cf6067e3ad2883650bb217490bf7562dacb71953a76982385b1ec95901d9eec"), looks := true }, kinds := [], alts := [], laidByText := true, laidKinds := [.handle], laidTests := true, laidLooks := .later }
def ShardKeysUptoCardSaid : Prop := Claim7.holds Tryz.pinned (.plain (OpenSpec.upto shardKeysSpec)) shardKeysUptoCard

/-- THE SECOND FORM's CARD OF 'estuarylaw15.ShardOnce'. -/
def shardOnceUptoCard : Claim7 := { stood := { row := shardOnceUptoRow, standIns := [], harness := (true, "3cf6067e3ad2883650bb217490bf7562dacb71953a76982385b1ec95901d9eec"), looks := true }, kinds := [], alts := [], laidByText := true, laidKinds := [.handle], laidTests := true, laidLooks := .later }
def ShardOnceUptoCardSaid : Prop := Claim7.holds Tryz.pinned (.plain (OpenSpec.upto shardOnceSpec)) shardOnceUptoCard

/-- THE SECOND FORM's CARD OF 'estuarylaw15.ShardFull'. -/
def shardFullUptoCard : Claim7 := { stood := { row := shardFullUptoRow, standIns := [], harness := (true, "3cf6067e3ad2883650bb217490bf7562dacb71953a76982385b1ec95901d9eec"), looks := true }, kinds := [], alts := [], laidByText := true, laidKinds := [.handle], laidTests := true, laidLooks := .later }
def ShardFullUptoCardSaid : Prop := Claim7.holds Tryz.pinned (.plain (OpenSpec.upto shardFullSpec)) shardFullUptoCard

/-- THE SECOND FORM's CARD OF 'estuarylaw15.ShardSets'. -/
def shardSetsUptoCard : Claim7 := { stood := { row := shardSetsUptoRow, standIns := [], harness := (true, "3cf6067e3ad2883650bb217490bf7562dacb71953a76982385b1ec95901d9eec"), looks := true }, kinds := [], alts := [], laidByText := true, laidKinds := [.handle], laidTests := true, laidLooks := .later }
def ShardSetsUptoCardSaid : Prop := Claim7.holds Tryz.pinned (.plain (OpenSpec.upto shardSetsSpec)) shardSetsUptoCard
end Rows
end Go.Proofs.YtomljpdjfobeoaaGreatDoor
