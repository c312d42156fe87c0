/-
  NARROWER THAN 'FOR EVERY INPUT', by the rows' own cells (each row's printed sentence says how): CutTells: laid · CutOnce: laid · ShardKeys: laid · ShardOnce: laid · ShardFull: laid · ShardSets: laid.
  DERIVED. THE GIVEN ROWS OF THIS SEAT. 6 by the template 'for every input the law returns true; each argument reads behind the call as it read before'; 0 by the template 'total and deterministic' (their statements: YtomljpdjfobeoaaGreatDoorTotals.lean).
  GIVEN WITH THE SEED: the statements are not yours to turn. If you find one false, say at which input.
  Laid BY PROGRAM, IN A SANDBOX (cutbox-rows.mjs): the forced cells as the released guide's own fill.sh prints them over the translation 1b9d22caf2061790… (all of the seat's roots in one cut). By AI agents, Wed Nov 11 2026. No macro, syntax, notation, axiom, sorry.
-/
import Derived.Test.YtomljpdjfobeoaaGreatDoorChecked
import GoSem.Claim
import GoSem.ClaimJoined
import GoSem.ClaimMapViews
import Derived.JoinedTies
import Derived.KernelRfl
namespace Go.Proofs.YtomljpdjfobeoaaGreatDoor
/- THE CELL 'sum', in the pinned program and in every row, IS THE sha256 OF THE DUMP (.gsa) THAT YtomljpdjfobeoaaGreatDoorProg.lean LOADS. Nothing in Lean hashes anything: it is a label: what it is worth is what the hold of that sum in a sandbox is worth. -/
noncomputable def Tryz.pinned : Pinned := { name := "ytomljpdjfobeoaagreatdoor", sum := "1b9d22caf2061790f14fca8d74369c5ca9e92395b70885db39dc0cf5e8f694a8", checked := Tryz.checked }
namespace Rows
def none {H : Type} : Left H := { results := [], args := [] }

/- WHAT THE LISTED PACKAGE-LEVEL VARIABLES READ AS WHEN THE CALL BEGINS. Each datum BY PROGRAM (the guide's laid-datum.mjs) off the statement by which the dump's own 'gosem.cut.vars' lays the variable. In a bare row this is a premise. The card (YtomljpdjfobeoaaGreatDoorCards.lean) ties it to the program's text. -/
def laid_errors_errorType {H : Type} : DataW H := .iface "internal/reflectlite.rtype" (.agg [.ptr (.lit (.string [101, 114, 114, 111, 114]))])

/-- 'estuarylaw17.CutTells': WHATEVER THE INPUT: true; the input reads as it did. -/
def cutTellsSpec : ChangeSpec := { name := "cutTells", fn := fun _ => fun
  | [d1, d2, d3, d4, d5] => { results := [.lit (.bool true)], args := [d1, d2, d3, d4, d5] }
  | _ => none }
def cutTellsRow : OpenClaim := { program := "ytomljpdjfobeoaagreatdoor", sum := "1b9d22caf2061790f14fca8d74369c5ca9e92395b70885db39dc0cf5e8f694a8", func := "estuary/estuarylaw17.CutTells", spec := "cutTells", inPlace := ["internal/reflectlite.TypeOf", "slices.overlaps[estuary/api.Done]", "internal/reflectlite.ValueOf", "(internal/reflectlite.Value).Type", "(internal/reflectlite.Value).IsNil", "(internal/reflectlite.Value).Elem", "(internal/reflectlite.Value).Set"], unfollowed := true, recurses := true, named := ["errors.errorType"], apart := false, laid := [("errors.errorType", laid_errors_errorType)] }
def CutTellsSaid : Prop := cutTellsRow.holds Tryz.pinned (OpenSpec.ofChange cutTellsSpec)

/-- ITS FALSE NEIGHBOUR: 'it returns false'. Refute it at one input. -/
def cutTellsWrong : ChangeSpec := { name := "cutTells", fn := fun _ => fun
  | [d1, d2, d3, d4, d5] => { results := [.lit (.bool false)], args := [d1, d2, d3, d4, d5] }
  | _ => none }
def CutTellsWrongFalsely : Prop := cutTellsRow.holds Tryz.pinned (OpenSpec.ofChange cutTellsWrong)

/-- 'estuarylaw17.CutOnce': WHATEVER THE INPUT: true; the input reads as it did. -/
def cutOnceSpec : ChangeSpec := { name := "cutOnce", fn := fun _ => fun
  | [d1, d2, d3] => { results := [.lit (.bool true)], args := [d1, d2, d3] }
  | _ => none }
def cutOnceRow : OpenClaim := { program := "ytomljpdjfobeoaagreatdoor", sum := "1b9d22caf2061790f14fca8d74369c5ca9e92395b70885db39dc0cf5e8f694a8", func := "estuary/estuarylaw17.CutOnce", spec := "cutOnce", inPlace := ["internal/reflectlite.TypeOf", "slices.overlaps[estuary/api.Done]", "internal/reflectlite.ValueOf", "(internal/reflectlite.Value).Type", "(internal/reflectlite.Value).IsNil", "(internal/reflectlite.Value).Elem", "(internal/reflectlite.Value).Set"], unfollowed := true, recurses := true, named := ["errors.errorType"], apart := false, laid := [("errors.errorType", laid_errors_errorType)] }
def CutOnceSaid : Prop := cutOnceRow.holds Tryz.pinned (OpenSpec.ofChange cutOnceSpec)

/-- ITS FALSE NEIGHBOUR: 'it returns false'. Refute it at one input. -/
def cutOnceWrong : ChangeSpec := { name := "cutOnce", fn := fun _ => fun
  | [d1, d2, d3] => { results := [.lit (.bool false)], args := [d1, d2, d3] }
  | _ => none }
def CutOnceWrongFalsely : Prop := cutOnceRow.holds Tryz.pinned (OpenSpec.ofChange cutOnceWrong)

/-- 'estuarylaw15.ShardKeys': WHATEVER THE INPUT: true; the input reads as it did. -/
def shardKeysSpec : ChangeSpec := { name := "shardKeys", fn := fun _ => fun
  | [d] => { results := [.lit (.bool true)], args := [d] }
  | _ => none }
def shardKeysRow : OpenClaim := { program := "ytomljpdjfobeoaagreatdoor", sum := "1b9d22caf2061790f14fca8d74369c5ca9e92395b70885db39dc0cf5e8f694a8", func := "estuary/estuarylaw15.ShardKeys", spec := "shardKeys", inPlace := ["slices.overlaps[estuary/api.Cell]", "internal/reflectlite.ValueOf", "(internal/reflectlite.Value).Type", "(internal/reflectlite.Value).IsNil", "internal/reflectlite.TypeOf", "(internal/reflectlite.Value).Elem", "(internal/reflectlite.Value).Set", "slices.overlaps[estuary/api.Done]"], unfollowed := true, recurses := true, named := ["errors.errorType"], apart := false, laid := [("errors.errorType", laid_errors_errorType)] }
def ShardKeysSaid : Prop := shardKeysRow.holds Tryz.pinned (OpenSpec.ofChange shardKeysSpec)

/-- ITS FALSE NEIGHBOUR: 'it returns false'. Refute it at one input. -/
def shardKeysWrong : ChangeSpec := { name := "shardKeys", fn := fun _ => fun
  | [d] => { results := [.lit (.bool false)], args := [d] }
  | _ => none }
def ShardKeysWrongFalsely : Prop := shardKeysRow.holds Tryz.pinned (OpenSpec.ofChange shardKeysWrong)

/-- 'estuarylaw15.ShardOnce': WHATEVER THE INPUT: true; the input reads as it did. -/
def shardOnceSpec : ChangeSpec := { name := "shardOnce", fn := fun _ => fun
  | [d1, d2] => { results := [.lit (.bool true)], args := [d1, d2] }
  | _ => none }
def shardOnceRow : OpenClaim := { program := "ytomljpdjfobeoaagreatdoor", sum := "1b9d22caf2061790f14fca8d74369c5ca9e92395b70885db39dc0cf5e8f694a8", func := "estuary/estuarylaw15.ShardOnce", spec := "shardOnce", inPlace := ["slices.overlaps[estuary/api.Cell]", "internal/reflectlite.ValueOf", "(internal/reflectlite.Value).Type", "(internal/reflectlite.Value).IsNil", "internal/reflectlite.TypeOf", "(internal/reflectlite.Value).Elem", "(internal/reflectlite.Value).Set", "slices.overlaps[estuary/api.Done]"], unfollowed := true, recurses := true, named := ["errors.errorType"], apart := false, laid := [("errors.errorType", laid_errors_errorType)] }
def ShardOnceSaid : Prop := shardOnceRow.holds Tryz.pinned (OpenSpec.ofChange shardOnceSpec)

/-- ITS FALSE NEIGHBOUR: 'it returns false'. Refute it at one input. -/
def shardOnceWrong : ChangeSpec := { name := "shardOnce", fn := fun _ => fun
  | [d1, d2] => { results := [.lit (.bool false)], args := [d1, d2] }
  | _ => none }
def ShardOnceWrongFalsely : Prop := shardOnceRow.holds Tryz.pinned (OpenSpec.ofChange shardOnceWrong)

/-- 'estuarylaw15.ShardFull': WHATEVER THE INPUT: true; the input reads as it did. -/
def shardFullSpec : ChangeSpec := { name := "shardFull", fn := fun _ => fun
  | [d1, d2] => { results := [.lit (.bool true)], args := [d1, d2] }
  | _ => none }
def shardFullRow : OpenClaim := { program := "ytomljpdjfobeoaagreatdoor", sum := "1b9d22caf2061790f14fca8d74369c5ca9e92395b70885db39dc0cf5e8f694a8", func := "estuary/estuarylaw15.ShardFull", spec := "shardFull", inPlace := ["slices.overlaps[estuary/api.Cell]", "internal/reflectlite.ValueOf", "(internal/reflectlite.Value).Type", "(internal/reflectlite.Value).IsNil", "internal/reflectlite.TypeOf", "(internal/reflectlite.Value).Elem", "(internal/reflectlite.Value).Set", "slices.overlaps[estuary/api.Done]"], unfollowed := true, recurses := true, named := ["errors.errorType"], apart := false, laid := [("errors.errorType", laid_errors_errorType)] }
def ShardFullSaid : Prop := shardFullRow.holds Tryz.pinned (OpenSpec.ofChange shardFullSpec)

/-- ITS FALSE NEIGHBOUR: 'it returns false'. Refute it at one input. -/
def shardFullWrong : ChangeSpec := { name := "shardFull", fn := fun _ => fun
  | [d1, d2] => { results := [.lit (.bool false)], args := [d1, d2] }
  | _ => none }
def ShardFullWrongFalsely : Prop := shardFullRow.holds Tryz.pinned (OpenSpec.ofChange shardFullWrong)

/-- 'estuarylaw15.ShardSets': WHATEVER THE INPUT: true; the input reads as it did. -/
def shardSetsSpec : ChangeSpec := { name := "shardSets", fn := fun _ => fun
  | [d1, d2] => { results := [.lit (.bool true)], args := [d1, d2] }
  | _ => none }
def shardSetsRow : OpenClaim := { program := "ytomljpdjfobeoaagreatdoor", sum := "1b9d22caf2061790f14fca8d74369c5ca9e92395b70885db39dc0cf5e8f694a8", func := "estuary/estuarylaw15.ShardSets", spec := "shardSets", inPlace := ["slices.overlaps[estuary/api.Cell]", "internal/reflectlite.ValueOf", "(internal/reflectlite.Value).Type", "(internal/reflectlite.Value).IsNil", "internal/reflectlite.TypeOf", "(internal/reflectlite.Value).Elem", "(internal/reflectlite.Value).Set", "slices.overlaps[estuary/api.Done]"], unfollowed := true, recurses := true, named := ["errors.errorType"], apart := false, laid := [("errors.errorType", laid_errors_errorType)] }
def ShardSetsSaid : Prop := shardSetsRow.holds Tryz.pinned (OpenSpec.ofChange shardSetsSpec)

/-- ITS FALSE NEIGHBOUR: 'it returns false'. Refute it at one input. -/
def shardSetsWrong : ChangeSpec := { name := "shardSets", fn := fun _ => fun
  | [d1, d2] => { results := [.lit (.bool false)], args := [d1, d2] }
  | _ => none }
def ShardSetsWrongFalsely : Prop := shardSetsRow.holds Tryz.pinned (OpenSpec.ofChange shardSetsWrong)

/- THE SECOND FORM. 'bulk': how many values and letters a reading holds, each counted each time it is reached (what is shared counts as often as it is met; a slice's spare places count too). A statement '..UptoSaid' is the law's where the arguments, and the package variables that the reading takes, are together of bulk at most 1048576: NARROWER than '..Said'. Prove '..Said' where nothing that the law and all that it calls make is longer than what came in: it says more and counts as full. Else prove '..UptoSaid'. A law counts once. -/
mutual
def uptoBulk {H : Type} : DataW H → Nat
  | .lit (.string bytes) => bytes.length + 1
  | .lit _ => 1
  | .nil => 1
  | .ptr d => uptoBulk d + 1
  | .slice elems spare => uptoBulkAll elems + uptoBulkAll spare + 1
  | .agg parts => uptoBulkAll parts + 1
  | .iface _ d => uptoBulk d + 1
  | .map entries => uptoBulkEntries entries + 1
  | .held _ => 1
def uptoBulkAll {H : Type} : List (DataW H) → Nat
  | [] => 0
  | d :: r => uptoBulk d + uptoBulkAll r
def uptoBulkEntries {H : Type} : List (Lit × DataW H) → Nat
  | [] => 0
  | x :: r => uptoBulkEntry x + uptoBulkEntries r
def uptoBulkEntry {H : Type} : Lit × DataW H → Nat
  | (.string bytes, d) => bytes.length + uptoBulk d + 1
  | (_, d) => uptoBulk d + 1
 end
def uptoSmall : (H : Type) → List (DataW H) → Bool := fun _ ds => decide (uptoBulkAll ds ≤ 1048576)
def OpenSpec.upto (s : _root_.Go.ChangeSpec) : _root_.Go.OpenSpec := { _root_.Go.OpenSpec.ofChange s with cond := some uptoSmall }

/-- 'estuarylaw17.CutTells', WHERE WHAT IT READS IS OF BULK AT MOST 1048576: true; the input reads as it did. -/
def cutTellsUptoRow : OpenClaim := { program := "ytomljpdjfobeoaagreatdoor", sum := "1b9d22caf2061790f14fca8d74369c5ca9e92395b70885db39dc0cf5e8f694a8", func := "estuary/estuarylaw17.CutTells", spec := "cutTells", inPlace := ["internal/reflectlite.TypeOf", "slices.overlaps[estuary/api.Done]", "internal/reflectlite.ValueOf", "(internal/reflectlite.Value).Type", "(internal/reflectlite.Value).IsNil", "(internal/reflectlite.Value).Elem", "(internal/reflectlite.Value).Set"], unfollowed := true, recurses := true, named := ["errors.errorType"], apart := false, laid := [("errors.errorType", laid_errors_errorType)], narrowed := true }
def CutTellsUptoSaid : Prop := cutTellsUptoRow.holds Tryz.pinned (OpenSpec.upto cutTellsSpec)

/-- 'estuarylaw17.CutOnce', WHERE WHAT IT READS IS OF BULK AT MOST 1048576: true; the input reads as it did. -/
def cutOnceUptoRow : OpenClaim := { program := "ytomljpdjfobeoaagreatdoor", sum := "1b9d22caf2061790f14fca8d74369c5ca9e92395b70885db39dc0cf5e8f694a8", func := "estuary/estuarylaw17.CutOnce", spec := "cutOnce", inPlace := ["internal/reflectlite.TypeOf", "slices.overlaps[estuary/api.Done]", "internal/reflectlite.ValueOf", "(internal/reflectlite.Value).Type", "(internal/reflectlite.Value).IsNil", "(internal/reflectlite.Value).Elem", "(internal/reflectlite.Value).Set"], unfollowed := true, recurses := true, named := ["errors.errorType"], apart := false, laid := [("errors.errorType", laid_errors_errorType)], narrowed := true }
def CutOnceUptoSaid : Prop := cutOnceUptoRow.holds Tryz.pinned (OpenSpec.upto cutOnceSpec)

/-- 'estuarylaw15.ShardKeys', WHERE WHAT IT READS IS OF BULK AT MOST 1048576: true; the input reads as it did. -/
def shardKeysUptoRow : OpenClaim := { program := "ytomljpdjfobeoaagreatdoor", sum := "1b9d22caf2061790f14fca8d74369c5ca9e92395b70885db39dc0cf5e8f694a8", func := "estuary/estuarylaw15.ShardKeys", spec := "shardKeys", inPlace := ["slices.overlaps[estuary/api.Cell]", "internal/reflectlite.ValueOf", "(internal/reflectlite.Value).Type", "(internal/reflectlite.Value).IsNil", "internal/reflectlite.TypeOf", "(internal/reflectlite.Value).Elem", "(internal/reflectlite.Value).Set", "slices.overlaps[estuary/api.Done]"], unfollowed := true, recurses := true, named := ["errors.errorType"], apart := false, laid := [("errors.errorType", laid_errors_errorType)], narrowed := true }
def ShardKeysUptoSaid : Prop := shardKeysUptoRow.holds Tryz.pinned (OpenSpec.upto shardKeysSpec)

/-- 'estuarylaw15.ShardOnce', WHERE WHAT IT READS IS OF BULK AT MOST 1048576: true; the input reads as it did. -/
def shardOnceUptoRow : OpenClaim := { program := "ytomljpdjfobeoaagreatdoor", sum := "1b9d22caf2061790f14fca8d74369c5ca9e92395b70885db39dc0cf5e8f694a8", func := "estuary/estuarylaw15.ShardOnce", spec := "shardOnce", inPlace := ["slices.overlaps[estuary/api.Cell]", "internal/reflectlite.ValueOf", "(internal/reflectlite.Value).Type", "(internal/reflectlite.Value).IsNil", "internal/reflectlite.TypeOf", "(internal/reflectlite.Value).Elem", "(internal/reflectlite.Value).Set", "slices.overlaps[estuary/api.Done]"], unfollowed := true, recurses := true, named := ["errors.errorType"], apart := false, laid := [("errors.errorType", laid_errors_errorType)], narrowed := true }
def ShardOnceUptoSaid : Prop := shardOnceUptoRow.holds Tryz.pinned (OpenSpec.upto shardOnceSpec)

/-- 'estuarylaw15.ShardFull', WHERE WHAT IT READS IS OF BULK AT MOST 1048576: true; the input reads as it did. -/
def shardFullUptoRow : OpenClaim := { program := "ytomljpdjfobeoaagreatdoor", sum := "1b9d22caf2061790f14fca8d74369c5ca9e92395b70885db39dc0cf5e8f694a8", func := "estuary/estuarylaw15.ShardFull", spec := "shardFull", inPlace := ["slices.overlaps[estuary/api.Cell]", "internal/reflectlite.ValueOf", "(internal/reflectlite.Value).Type", "(internal/reflectlite.Value).IsNil", "internal/reflectlite.TypeOf", "(internal/reflectlite.Value).Elem", "(internal/reflectlite.Value).Set", "slices.overlaps[estuary/api.Done]"], unfollowed := true, recurses := true, named := ["errors.errorType"], apart := false, laid := [("errors.errorType", laid_errors_errorType)], narrowed := true }
def ShardFullUptoSaid : Prop := shardFullUptoRow.holds Tryz.pinned (OpenSpec.upto shardFullSpec)

/-- 'estuarylaw15.ShardSets', WHERE WHAT IT READS IS OF BULK AT MOST 1048576: true; the input reads as it did. -/
def shardSetsUptoRow : OpenClaim := { program := "ytomljpdjfobeoaagreatdoor", sum := "1b9d22caf2061790f14fca8d74369c5ca9e92395b70885db39dc0cf5e8f694a8", func := "estuary/estuarylaw15.ShardSets", spec := "shardSets", inPlace := ["slices.overlaps[estuary/api.Cell]", "internal/reflectlite.ValueOf", "(internal/reflectlite.Value).Type", "(internal/reflectlite.Value).IsNil", "internal/reflectlite.TypeOf", "(internal/reflectlite.Value).Elem", "(internal/reflectlite.Value).Set", "slices.overlaps[estuary/api.Done]"], unfollowed := true, recurses := true, named := ["errors.errorType"], apart := false, laid := [("errors.errorType", laid_errors_errorType)], narrowed := true }
def ShardSetsUptoSaid : Prop := shardSetsUptoRow.holds Tryz.pinned (OpenSpec.upto shardSetsSpec)

end Rows
end Go.Proofs.YtomljpdjfobeoaaGreatDoor
