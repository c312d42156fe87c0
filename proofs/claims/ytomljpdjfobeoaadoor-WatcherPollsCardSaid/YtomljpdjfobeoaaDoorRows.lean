/-
  NARROWER THAN 'FOR EVERY INPUT', by the rows' own cells (each row's printed sentence says how): WatcherOver: laid · WatcherPolls: laid · WatcherMany: laid · CutJoins: laid · CutKeys: laid.
  DERIVED. THE GIVEN ROWS OF THIS SEAT. 5 by the template 'for every input the law returns true; each argument reads behind the call as it read before'; 0 by the template 'total and deterministic' (their statements: YtomljpdjfobeoaaDoorTotals.lean).
  GIVEN WITH THE SEED: the statements are not yours to turn. If you find one false, say at which input.
  Laid BY PROGRAM, IN A SANDBOX (cutbox-rows.mjs): the forced cells as the released guide's own fill.sh prints them over the translation 0f6a2aab8f7e4098… (all of the seat's roots in one cut). By AI agents, Wed Nov 11 2026. No macro, syntax, notation, axiom, sorry.
-/
import Derived.Test.YtomljpdjfobeoaaDoorChecked
import GoSem.Claim
import GoSem.ClaimJoined
import GoSem.ClaimMapViews
import Derived.JoinedTies
import Derived.KernelRfl
namespace Go.Proofs.YtomljpdjfobeoaaDoor
/- THE CELL 'sum', in the pinned program and in every row, IS THE sha256 OF THE DUMP (.gsa) THAT YtomljpdjfobeoaaDoorProg.lean LOADS. Nothing in Lean hashes anything: it is a label: what it is worth is what the hold of that sum in a sandbox is worth. -/
noncomputable def Tryd.pinned : Pinned := { name := "ytomljpdjfobeoaadoor", sum := "0f6a2aab8f7e4098f46764cdf48a1214331a8816d0eb954b69675ba8f40c029e", checked := Tryd.checked }
namespace Rows
def none {H : Type} : Left H := { results := [], args := [] }

/- WHAT THE LISTED PACKAGE-LEVEL VARIABLES READ AS WHEN THE CALL BEGINS. Each datum BY PROGRAM (the guide's laid-datum.mjs) off the statement by which the dump's own 'gosem.cut.vars' lays the variable. In a bare row this is a premise. The card (YtomljpdjfobeoaaDoorCards.lean) ties it to the program's text. -/
def laid_errors_errorType {H : Type} : DataW H := .iface "internal/reflectlite.rtype" (.agg [.ptr (.lit (.string [101, 114, 114, 111, 114]))])

/-- 'estuarylaw24.WatcherOver': WHATEVER THE INPUT: true; the input reads as it did. -/
def watcherOverSpec : ChangeSpec := { name := "watcherOver", fn := fun _ => fun
  | [d1, d2] => { results := [.lit (.bool true)], args := [d1, d2] }
  | _ => none }
def watcherOverRow : OpenClaim := { program := "ytomljpdjfobeoaadoor", sum := "0f6a2aab8f7e4098f46764cdf48a1214331a8816d0eb954b69675ba8f40c029e", func := "estuary/estuarylaw24.WatcherOver", spec := "watcherOver", inPlace := ["internal/reflectlite.TypeOf", "slices.overlaps[estuary/api.Seen]", "internal/reflectlite.ValueOf", "(internal/reflectlite.Value).Type", "(internal/reflectlite.Value).IsNil", "(internal/reflectlite.Value).Elem", "(internal/reflectlite.Value).Set"], unfollowed := true, recurses := true, named := ["errors.errorType"], apart := false, laid := [("errors.errorType", laid_errors_errorType)] }
def WatcherOverSaid : Prop := watcherOverRow.holds Tryd.pinned (OpenSpec.ofChange watcherOverSpec)

/-- ITS FALSE NEIGHBOUR: 'it returns false'. Refute it at one input. -/
def watcherOverWrong : ChangeSpec := { name := "watcherOver", fn := fun _ => fun
  | [d1, d2] => { results := [.lit (.bool false)], args := [d1, d2] }
  | _ => none }
def WatcherOverWrongFalsely : Prop := watcherOverRow.holds Tryd.pinned (OpenSpec.ofChange watcherOverWrong)

/-- 'estuarylaw24.WatcherPolls': WHATEVER THE INPUT: true; the input reads as it did. -/
def watcherPollsSpec : ChangeSpec := { name := "watcherPolls", fn := fun _ => fun
  | [d1, d2, d3, d4, d5] => { results := [.lit (.bool true)], args := [d1, d2, d3, d4, d5] }
  | _ => none }
def watcherPollsRow : OpenClaim := { program := "ytomljpdjfobeoaadoor", sum := "0f6a2aab8f7e4098f46764cdf48a1214331a8816d0eb954b69675ba8f40c029e", func := "estuary/estuarylaw24.WatcherPolls", spec := "watcherPolls", inPlace := ["internal/reflectlite.TypeOf", "slices.overlaps[estuary/api.Seen]", "internal/reflectlite.ValueOf", "(internal/reflectlite.Value).Type", "(internal/reflectlite.Value).IsNil", "(internal/reflectlite.Value).Elem", "(internal/reflectlite.Value).Set"], unfollowed := true, recurses := true, named := ["errors.errorType"], apart := false, laid := [("errors.errorType", laid_errors_errorType)] }
def WatcherPollsSaid : Prop := watcherPollsRow.holds Tryd.pinned (OpenSpec.ofChange watcherPollsSpec)

/-- ITS FALSE NEIGHBOUR: 'it returns false'. Refute it at one input. -/
def watcherPollsWrong : ChangeSpec := { name := "watcherPolls", fn := fun _ => fun
  | [d1, d2, d3, d4, d5] => { results := [.lit (.bool false)], args := [d1, d2, d3, d4, d5] }
  | _ => none }
def WatcherPollsWrongFalsely : Prop := watcherPollsRow.holds Tryd.pinned (OpenSpec.ofChange watcherPollsWrong)

/-- 'estuarylaw24.WatcherMany': WHATEVER THE INPUT: true; the input reads as it did. -/
def watcherManySpec : ChangeSpec := { name := "watcherMany", fn := fun _ => fun
  | [d1, d2] => { results := [.lit (.bool true)], args := [d1, d2] }
  | _ => none }
def watcherManyRow : OpenClaim := { program := "ytomljpdjfobeoaadoor", sum := "0f6a2aab8f7e4098f46764cdf48a1214331a8816d0eb954b69675ba8f40c029e", func := "estuary/estuarylaw24.WatcherMany", spec := "watcherMany", inPlace := ["internal/reflectlite.TypeOf", "slices.overlaps[estuary/api.Seen]", "internal/reflectlite.ValueOf", "(internal/reflectlite.Value).Type", "(internal/reflectlite.Value).IsNil", "(internal/reflectlite.Value).Elem", "(internal/reflectlite.Value).Set"], unfollowed := true, recurses := true, named := ["errors.errorType"], apart := false, laid := [("errors.errorType", laid_errors_errorType)] }
def WatcherManySaid : Prop := watcherManyRow.holds Tryd.pinned (OpenSpec.ofChange watcherManySpec)

/-- ITS FALSE NEIGHBOUR: 'it returns false'. Refute it at one input. -/
def watcherManyWrong : ChangeSpec := { name := "watcherMany", fn := fun _ => fun
  | [d1, d2] => { results := [.lit (.bool false)], args := [d1, d2] }
  | _ => none }
def WatcherManyWrongFalsely : Prop := watcherManyRow.holds Tryd.pinned (OpenSpec.ofChange watcherManyWrong)

/-- 'estuarylaw17.CutJoins': WHATEVER THE INPUT: true; the input reads as it did. -/
def cutJoinsSpec : ChangeSpec := { name := "cutJoins", fn := fun _ => fun
  | [d1, d2] => { results := [.lit (.bool true)], args := [d1, d2] }
  | _ => none }
def cutJoinsRow : OpenClaim := { program := "ytomljpdjfobeoaadoor", sum := "0f6a2aab8f7e4098f46764cdf48a1214331a8816d0eb954b69675ba8f40c029e", func := "estuary/estuarylaw17.CutJoins", spec := "cutJoins", inPlace := ["internal/reflectlite.TypeOf", "slices.overlaps[estuary/api.Done]", "internal/reflectlite.ValueOf", "(internal/reflectlite.Value).Type", "(internal/reflectlite.Value).IsNil", "(internal/reflectlite.Value).Elem", "(internal/reflectlite.Value).Set"], unfollowed := true, recurses := true, named := ["errors.errorType"], apart := false, laid := [("errors.errorType", laid_errors_errorType)] }
def CutJoinsSaid : Prop := cutJoinsRow.holds Tryd.pinned (OpenSpec.ofChange cutJoinsSpec)

/-- ITS FALSE NEIGHBOUR: 'it returns false'. Refute it at one input. -/
def cutJoinsWrong : ChangeSpec := { name := "cutJoins", fn := fun _ => fun
  | [d1, d2] => { results := [.lit (.bool false)], args := [d1, d2] }
  | _ => none }
def CutJoinsWrongFalsely : Prop := cutJoinsRow.holds Tryd.pinned (OpenSpec.ofChange cutJoinsWrong)

/-- 'estuarylaw17.CutKeys': WHATEVER THE INPUT: true; the input reads as it did. -/
def cutKeysSpec : ChangeSpec := { name := "cutKeys", fn := fun _ => fun
  | [d1, d2, d3, d4] => { results := [.lit (.bool true)], args := [d1, d2, d3, d4] }
  | _ => none }
def cutKeysRow : OpenClaim := { program := "ytomljpdjfobeoaadoor", sum := "0f6a2aab8f7e4098f46764cdf48a1214331a8816d0eb954b69675ba8f40c029e", func := "estuary/estuarylaw17.CutKeys", spec := "cutKeys", inPlace := ["internal/reflectlite.TypeOf", "slices.overlaps[estuary/api.Done]", "internal/reflectlite.ValueOf", "(internal/reflectlite.Value).Type", "(internal/reflectlite.Value).IsNil", "(internal/reflectlite.Value).Elem", "(internal/reflectlite.Value).Set"], unfollowed := true, recurses := true, named := ["errors.errorType"], apart := false, laid := [("errors.errorType", laid_errors_errorType)] }
def CutKeysSaid : Prop := cutKeysRow.holds Tryd.pinned (OpenSpec.ofChange cutKeysSpec)

/-- ITS FALSE NEIGHBOUR: 'it returns false'. Refute it at one input. -/
def cutKeysWrong : ChangeSpec := { name := "cutKeys", fn := fun _ => fun
  | [d1, d2, d3, d4] => { results := [.lit (.bool false)], args := [d1, d2, d3, d4] }
  | _ => none }
def CutKeysWrongFalsely : Prop := cutKeysRow.holds Tryd.pinned (OpenSpec.ofChange cutKeysWrong)

/- THE SECOND FORM. 'bulk': how many values and letters a reading holds, each counted each time it is reached (what is shared counts as often as it is met; a slice's spare places count too). A statement '..UptoSaid' is the law's where the arguments, and the package variables that the reading takes, are together of bulk at most 1048576: NARROWER than '..Said'. Prove '..Said' where nothing that the law and all that it calls make is longer than what came in: it says more and counts as full. Else prove '..UptoSaid'. A law counts once. -/
mutual
def uptoBulk {H : Type} : DataW H → Nat
  | .lit (.string bytes) => bytes.length + 1
  | .lit _ => 1
  | .nil => 1
  | .ptr d => uptoBulk d + 1
  | .slice elems spare => uptoBulkAll elems + uptoBulkAll spare + 1
  | .agg parts => uptoBulkAll parts + 1
  | .iface _ d => uptoBulk d + 1
  | .map entries => uptoBulkEntries entries + 1
  | .held _ => 1
def uptoBulkAll {H : Type} : List (DataW H) → Nat
  | [] => 0
  | d :: r => uptoBulk d + uptoBulkAll r
def uptoBulkEntries {H : Type} : List (Lit × DataW H) → Nat
  | [] => 0
  | x :: r => uptoBulkEntry x + uptoBulkEntries r
def uptoBulkEntry {H : Type} : Lit × DataW H → Nat
  | (.string bytes, d) => bytes.length + uptoBulk d + 1
  | (_, d) => uptoBulk d + 1
 end
def uptoSmall : (H : Type) → List (DataW H) → Bool := fun _ ds => decide (uptoBulkAll ds ≤ 1048576)
def OpenSpec.upto (s : _root_.Go.ChangeSpec) : _root_.Go.OpenSpec := { _root_.Go.OpenSpec.ofChange s with cond := some uptoSmall }

/-- 'estuarylaw24.WatcherOver', WHERE WHAT IT READS IS OF BULK AT MOST 1048576: true; the input reads as it did. -/
def watcherOverUptoRow : OpenClaim := { program := "ytomljpdjfobeoaadoor", sum := "0f6a2aab8f7e4098f46764cdf48a1214331a8816d0eb954b69675ba8f40c029e", func := "estuary/estuarylaw24.WatcherOver", spec := "watcherOver", inPlace := ["internal/reflectlite.TypeOf", "slices.overlaps[estuary/api.Seen]", "internal/reflectlite.ValueOf", "(internal/reflectlite.Value).Type", "(internal/reflectlite.Value).IsNil", "(internal/reflectlite.Value).Elem", "(internal/reflectlite.Value).Set"], unfollowed := true, recurses := true, named := ["errors.errorType"], apart := false, laid := [("errors.errorType", laid_errors_errorType)], narrowed := true }
def WatcherOverUptoSaid : Prop := watcherOverUptoRow.holds Tryd.pinned (OpenSpec.upto watcherOverSpec)

/-- 'estuarylaw24.WatcherPolls', WHERE WHAT IT READS IS OF BULK AT MOST 1048576: true; the input reads as it did. -/
def watcherPollsUptoRow : OpenClaim := { program := "ytomljpdjfobeoaadoor", sum := "0f6a2aab8f7e4098f46764cdf48a1214331a8816d0eb954b69675ba8f40c029e", func := "estuary/estuarylaw24.WatcherPolls", spec := "watcherPolls", inPlace := ["internal/reflectlite.TypeOf", "slices.overlaps[estuary/api.Seen]", "internal/reflectlite.ValueOf", "(internal/reflectlite.Value).Type", "(internal/reflectlite.Value).IsNil", "(internal/reflectlite.Value).Elem", "(internal/reflectlite.Value).Set"], unfollowed := true, recurses := true, named := ["errors.errorType"], apart := false, laid := [("errors.errorType", laid_errors_errorType)], narrowed := true }
def WatcherPollsUptoSaid : Prop := watcherPollsUptoRow.holds Tryd.pinned (OpenSpec.upto watcherPollsSpec)

/-- 'estuarylaw24.WatcherMany', WHERE WHAT IT READS IS OF BULK AT MOST 1048576: true; the input reads as it did. -/
def watcherManyUptoRow : OpenClaim := { program := "ytomljpdjfobeoaadoor", sum := "0f6a2aab8f7e4098f46764cdf48a1214331a8816d0eb954b69675ba8f40c029e", func := "estuary/estuarylaw24.WatcherMany", spec := "watcherMany", inPlace := ["internal/reflectlite.TypeOf", "slices.overlaps[estuary/api.Seen]", "internal/reflectlite.ValueOf", "(internal/reflectlite.Value).Type", "(internal/reflectlite.Value).IsNil", "(internal/reflectlite.Value).Elem", "(internal/reflectlite.Value).Set"], unfollowed := true, recurses := true, named := ["errors.errorType"], apart := false, laid := [("errors.errorType", laid_errors_errorType)], narrowed := true }
def WatcherManyUptoSaid : Prop := watcherManyUptoRow.holds Tryd.pinned (OpenSpec.upto watcherManySpec)

/-- 'estuarylaw17.CutJoins', WHERE WHAT IT READS IS OF BULK AT MOST 1048576: true; the input reads as it did. -/
def cutJoinsUptoRow : OpenClaim := { program := "ytomljpdjfobeoaadoor", sum := "0f6a2aab8f7e4098f46764cdf48a1214331a8816d0eb954b69675ba8f40c029e", func := "estuary/estuarylaw17.CutJoins", spec := "cutJoins", inPlace := ["internal/reflectlite.TypeOf", "slices.overlaps[estuary/api.Done]", "internal/reflectlite.ValueOf", "(internal/reflectlite.Value).Type", "(internal/reflectlite.Value).IsNil", "(internal/reflectlite.Value).Elem", "(internal/reflectlite.Value).Set"], unfollowed := true, recurses := true, named := ["errors.errorType"], apart := false, laid := [("errors.errorType", laid_errors_errorType)], narrowed := true }
def CutJoinsUptoSaid : Prop := cutJoinsUptoRow.holds Tryd.pinned (OpenSpec.upto cutJoinsSpec)

/-- 'estuarylaw17.CutKeys', WHERE WHAT IT READS IS OF BULK AT MOST 1048576: true; the input reads as it did. -/
def cutKeysUptoRow : OpenClaim := { program := "ytomljpdjfobeoaadoor", sum := "0f6a2aab8f7e4098f46764cdf48a1214331a8816d0eb954b69675ba8f40c029e", func := "estuary/estuarylaw17.CutKeys", spec := "cutKeys", inPlace := ["internal/reflectlite.TypeOf", "slices.overlaps[estuary/api.Done]", "internal/reflectlite.ValueOf", "(internal/reflectlite.Value).Type", "(internal/reflectlite.Value).IsNil", "(internal/reflectlite.Value).Elem", "(internal/reflectlite.Value).Set"], unfollowed := true, recurses := true, named := ["errors.errorType"], apart := false, laid := [("errors.errorType", laid_errors_errorType)], narrowed := true }
def CutKeysUptoSaid : Prop := cutKeysUptoRow.holds Tryd.pinned (OpenSpec.upto cutKeysSpec)

end Rows
end Go.Proofs.YtomljpdjfobeoaaDoor
