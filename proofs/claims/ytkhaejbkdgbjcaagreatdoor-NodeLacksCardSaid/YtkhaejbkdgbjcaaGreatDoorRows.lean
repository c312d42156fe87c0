/-
  NARROWER THAN 'FOR EVERY INPUT', by the rows' own cells (each row's printed sentence says how): NodeHands: laid · NodeLacks: laid · NodeStray: laid · NodeFeeds: laid · NodeCuts: laid.
  DERIVED. THE GIVEN ROWS OF THIS SEAT. 5 by the template 'for every input the law returns true; each argument reads behind the call as it read before'; 0 by the template 'total and deterministic' (their statements: YtkhaejbkdgbjcaaGreatDoorTotals.lean).
  GIVEN WITH THE SEED: the statements are not yours to turn. If you find one false, say at which input.
  Laid BY PROGRAM, IN A SANDBOX (cutbox-rows.mjs): the forced cells as the released guide's own fill.sh prints them over the translation 06b8a2f18d4a50eb… (all of the seat's roots in one cut). By AI agents, Wed Nov 11 2026. No macro, syntax, notation, axiom, sorry.
-/
import Derived.Test.YtkhaejbkdgbjcaaGreatDoorChecked
import GoSem.Claim
import GoSem.ClaimJoined
import GoSem.ClaimMapViews
import Derived.JoinedTies
import Derived.KernelRfl
namespace Go.Proofs.YtkhaejbkdgbjcaaGreatDoor
/- THE CELL 'sum', in the pinned program and in every row, IS THE sha256 OF THE DUMP (.gsa) THAT YtkhaejbkdgbjcaaGreatDoorProg.lean LOADS. Nothing in Lean hashes anything: it is a label: what it is worth is what the hold of that sum in a sandbox is worth. -/
noncomputable def Tryz.pinned : Pinned := { name := "ytkhaejbkdgbjcaagreatdoor", sum := "06b8a2f18d4a50ebf04bc214738de7fbdb2f120c6f48deefcf60acc0b302fb16", checked := Tryz.checked }
namespace Rows
def none {H : Type} : Left H := { results := [], args := [] }

/- WHAT THE LISTED PACKAGE-LEVEL VARIABLES READ AS WHEN THE CALL BEGINS. Each datum BY PROGRAM (the guide's laid-datum.mjs) off the statement by which the dump's own 'gosem.cut.vars' lays the variable. In a bare row this is a premise. The card (YtkhaejbkdgbjcaaGreatDoorCards.lean) ties it to the program's text. -/
def laid_errors_errorType {H : Type} : DataW H := .iface "internal/reflectlite.rtype" (.agg [.ptr (.lit (.string [101, 114, 114, 111, 114]))])

/-- 'estuarylaw19.NodeHands': WHATEVER THE INPUT: true; the input reads as it did. -/
def nodeHandsSpec : ChangeSpec := { name := "nodeHands", fn := fun _ => fun
  | [d1, d2, d3] => { results := [.lit (.bool true)], args := [d1, d2, d3] }
  | _ => none }
def nodeHandsRow : OpenClaim := { program := "ytkhaejbkdgbjcaagreatdoor", sum := "06b8a2f18d4a50ebf04bc214738de7fbdb2f120c6f48deefcf60acc0b302fb16", func := "estuary/estuarylaw19.NodeHands", spec := "nodeHands", inPlace := ["internal/reflectlite.TypeOf", "internal/reflectlite.ValueOf", "(internal/reflectlite.Value).Type", "(internal/reflectlite.Value).IsNil", "(internal/reflectlite.Value).Elem", "(internal/reflectlite.Value).Set", "slices.overlaps[estuary/api.Cell]", "slices.overlaps[estuary/api.Done]", "internal/abi.NoEscape", "internal/bytealg.MakeNoZero"], unfollowed := true, recurses := true, named := ["errors.errorType"], apart := false, laid := [("errors.errorType", laid_errors_errorType)] }
def NodeHandsSaid : Prop := nodeHandsRow.holds Tryz.pinned (OpenSpec.ofChange nodeHandsSpec)

/-- ITS FALSE NEIGHBOUR: 'it returns false'. Refute it at one input. -/
def nodeHandsWrong : ChangeSpec := { name := "nodeHands", fn := fun _ => fun
  | [d1, d2, d3] => { results := [.lit (.bool false)], args := [d1, d2, d3] }
  | _ => none }
def NodeHandsWrongFalsely : Prop := nodeHandsRow.holds Tryz.pinned (OpenSpec.ofChange nodeHandsWrong)

/-- 'estuarylaw19.NodeLacks': WHATEVER THE INPUT: true; the input reads as it did. -/
def nodeLacksSpec : ChangeSpec := { name := "nodeLacks", fn := fun _ => fun
  | [d1, d2, d3] => { results := [.lit (.bool true)], args := [d1, d2, d3] }
  | _ => none }
def nodeLacksRow : OpenClaim := { program := "ytkhaejbkdgbjcaagreatdoor", sum := "06b8a2f18d4a50ebf04bc214738de7fbdb2f120c6f48deefcf60acc0b302fb16", func := "estuary/estuarylaw19.NodeLacks", spec := "nodeLacks", inPlace := ["internal/reflectlite.TypeOf", "internal/reflectlite.ValueOf", "(internal/reflectlite.Value).Type", "(internal/reflectlite.Value).IsNil", "(internal/reflectlite.Value).Elem", "(internal/reflectlite.Value).Set", "slices.overlaps[estuary/api.Cell]", "slices.overlaps[estuary/api.Done]", "internal/abi.NoEscape", "internal/bytealg.MakeNoZero"], unfollowed := true, recurses := true, named := ["errors.errorType"], apart := false, laid := [("errors.errorType", laid_errors_errorType)] }
def NodeLacksSaid : Prop := nodeLacksRow.holds Tryz.pinned (OpenSpec.ofChange nodeLacksSpec)

/-- ITS FALSE NEIGHBOUR: 'it returns false'. Refute it at one input. -/
def nodeLacksWrong : ChangeSpec := { name := "nodeLacks", fn := fun _ => fun
  | [d1, d2, d3] => { results := [.lit (.bool false)], args := [d1, d2, d3] }
  | _ => none }
def NodeLacksWrongFalsely : Prop := nodeLacksRow.holds Tryz.pinned (OpenSpec.ofChange nodeLacksWrong)

/-- 'estuarylaw19.NodeStray': WHATEVER THE INPUT: true; the input reads as it did. -/
def nodeStraySpec : ChangeSpec := { name := "nodeStray", fn := fun _ => fun
  | [d1, d2, d3, d4] => { results := [.lit (.bool true)], args := [d1, d2, d3, d4] }
  | _ => none }
def nodeStrayRow : OpenClaim := { program := "ytkhaejbkdgbjcaagreatdoor", sum := "06b8a2f18d4a50ebf04bc214738de7fbdb2f120c6f48deefcf60acc0b302fb16", func := "estuary/estuarylaw19.NodeStray", spec := "nodeStray", inPlace := ["internal/reflectlite.TypeOf", "internal/reflectlite.ValueOf", "(internal/reflectlite.Value).Type", "(internal/reflectlite.Value).IsNil", "(internal/reflectlite.Value).Elem", "(internal/reflectlite.Value).Set", "slices.overlaps[estuary/api.Cell]", "slices.overlaps[estuary/api.Done]", "internal/abi.NoEscape", "internal/bytealg.MakeNoZero"], unfollowed := true, recurses := true, named := ["errors.errorType"], apart := false, laid := [("errors.errorType", laid_errors_errorType)] }
def NodeStraySaid : Prop := nodeStrayRow.holds Tryz.pinned (OpenSpec.ofChange nodeStraySpec)

/-- ITS FALSE NEIGHBOUR: 'it returns false'. Refute it at one input. -/
def nodeStrayWrong : ChangeSpec := { name := "nodeStray", fn := fun _ => fun
  | [d1, d2, d3, d4] => { results := [.lit (.bool false)], args := [d1, d2, d3, d4] }
  | _ => none }
def NodeStrayWrongFalsely : Prop := nodeStrayRow.holds Tryz.pinned (OpenSpec.ofChange nodeStrayWrong)

/-- 'estuarylaw19.NodeFeeds': WHATEVER THE INPUT: true; the input reads as it did. -/
def nodeFeedsSpec : ChangeSpec := { name := "nodeFeeds", fn := fun _ => fun
  | [d1, d2, d3, d4] => { results := [.lit (.bool true)], args := [d1, d2, d3, d4] }
  | _ => none }
def nodeFeedsRow : OpenClaim := { program := "ytkhaejbkdgbjcaagreatdoor", sum := "06b8a2f18d4a50ebf04bc214738de7fbdb2f120c6f48deefcf60acc0b302fb16", func := "estuary/estuarylaw19.NodeFeeds", spec := "nodeFeeds", inPlace := ["internal/reflectlite.TypeOf", "internal/reflectlite.ValueOf", "(internal/reflectlite.Value).Type", "(internal/reflectlite.Value).IsNil", "(internal/reflectlite.Value).Elem", "(internal/reflectlite.Value).Set", "slices.overlaps[estuary/api.Cell]", "slices.overlaps[estuary/api.Done]", "internal/abi.NoEscape", "internal/bytealg.MakeNoZero"], unfollowed := true, recurses := true, named := ["errors.errorType"], apart := false, laid := [("errors.errorType", laid_errors_errorType)] }
def NodeFeedsSaid : Prop := nodeFeedsRow.holds Tryz.pinned (OpenSpec.ofChange nodeFeedsSpec)

/-- ITS FALSE NEIGHBOUR: 'it returns false'. Refute it at one input. -/
def nodeFeedsWrong : ChangeSpec := { name := "nodeFeeds", fn := fun _ => fun
  | [d1, d2, d3, d4] => { results := [.lit (.bool false)], args := [d1, d2, d3, d4] }
  | _ => none }
def NodeFeedsWrongFalsely : Prop := nodeFeedsRow.holds Tryz.pinned (OpenSpec.ofChange nodeFeedsWrong)

/-- 'estuarylaw19.NodeCuts': WHATEVER THE INPUT: true; the input reads as it did. -/
def nodeCutsSpec : ChangeSpec := { name := "nodeCuts", fn := fun _ => fun
  | [d1, d2] => { results := [.lit (.bool true)], args := [d1, d2] }
  | _ => none }
def nodeCutsRow : OpenClaim := { program := "ytkhaejbkdgbjcaagreatdoor", sum := "06b8a2f18d4a50ebf04bc214738de7fbdb2f120c6f48deefcf60acc0b302fb16", func := "estuary/estuarylaw19.NodeCuts", spec := "nodeCuts", inPlace := ["internal/reflectlite.TypeOf", "internal/reflectlite.ValueOf", "(internal/reflectlite.Value).Type", "(internal/reflectlite.Value).IsNil", "(internal/reflectlite.Value).Elem", "(internal/reflectlite.Value).Set", "slices.overlaps[estuary/api.Cell]", "slices.overlaps[estuary/api.Done]", "internal/abi.NoEscape", "internal/bytealg.MakeNoZero"], unfollowed := true, recurses := true, named := ["errors.errorType"], apart := false, laid := [("errors.errorType", laid_errors_errorType)] }
def NodeCutsSaid : Prop := nodeCutsRow.holds Tryz.pinned (OpenSpec.ofChange nodeCutsSpec)

/-- ITS FALSE NEIGHBOUR: 'it returns false'. Refute it at one input. -/
def nodeCutsWrong : ChangeSpec := { name := "nodeCuts", fn := fun _ => fun
  | [d1, d2] => { results := [.lit (.bool false)], args := [d1, d2] }
  | _ => none }
def NodeCutsWrongFalsely : Prop := nodeCutsRow.holds Tryz.pinned (OpenSpec.ofChange nodeCutsWrong)

/- THE SECOND FORM. 'bulk': how many values and letters a reading holds, each counted each time it is reached (what is shared counts as often as it is met; a slice's spare places count too). A statement '..UptoSaid' is the law's where the arguments, and the package variables that the reading takes, are together of bulk at most 1048576: NARROWER than '..Said'. Prove '..Said' where nothing that the law and all that it calls make is longer than what came in: it says more and counts as full. Else prove '..UptoSaid'. A law counts once. -/
mutual
def uptoBulk {H : Type} : DataW H → Nat
  | .lit (.string bytes) => bytes.length + 1
  | .lit _ => 1
  | .nil => 1
  | .ptr d => uptoBulk d + 1
  | .slice elems spare => uptoBulkAll elems + uptoBulkAll spare + 1
  | .agg parts => uptoBulkAll parts + 1
  | .iface _ d => uptoBulk d + 1
  | .map entries => uptoBulkEntries entries + 1
  | .held _ => 1
def uptoBulkAll {H : Type} : List (DataW H) → Nat
  | [] => 0
  | d :: r => uptoBulk d + uptoBulkAll r
def uptoBulkEntries {H : Type} : List (Lit × DataW H) → Nat
  | [] => 0
  | x :: r => uptoBulkEntry x + uptoBulkEntries r
def uptoBulkEntry {H : Type} : Lit × DataW H → Nat
  | (.string bytes, d) => bytes.length + uptoBulk d + 1
  | (_, d) => uptoBulk d + 1
 end
def uptoSmall : (H : Type) → List (DataW H) → Bool := fun _ ds => decide (uptoBulkAll ds ≤ 1048576)
def OpenSpec.upto (s : _root_.Go.ChangeSpec) : _root_.Go.OpenSpec := { _root_.Go.OpenSpec.ofChange s with cond := some uptoSmall }

/-- 'estuarylaw19.NodeHands', WHERE WHAT IT READS IS OF BULK AT MOST 1048576: true; the input reads as it did. -/
def nodeHandsUptoRow : OpenClaim := { program := "ytkhaejbkdgbjcaagreatdoor", sum := "06b8a2f18d4a50ebf04bc214738de7fbdb2f120c6f48deefcf60acc0b302fb16", func := "estuary/estuarylaw19.NodeHands", spec := "nodeHands", inPlace := ["internal/reflectlite.TypeOf", "internal/reflectlite.ValueOf", "(internal/reflectlite.Value).Type", "(internal/reflectlite.Value).IsNil", "(internal/reflectlite.Value).Elem", "(internal/reflectlite.Value).Set", "slices.overlaps[estuary/api.Cell]", "slices.overlaps[estuary/api.Done]", "internal/abi.NoEscape", "internal/bytealg.MakeNoZero"], unfollowed := true, recurses := true, named := ["errors.errorType"], apart := false, laid := [("errors.errorType", laid_errors_errorType)], narrowed := true }
def NodeHandsUptoSaid : Prop := nodeHandsUptoRow.holds Tryz.pinned (OpenSpec.upto nodeHandsSpec)

/-- 'estuarylaw19.NodeLacks', WHERE WHAT IT READS IS OF BULK AT MOST 1048576: true; the input reads as it did. -/
def nodeLacksUptoRow : OpenClaim := { program := "ytkhaejbkdgbjcaagreatdoor", sum := "06b8a2f18d4a50ebf04bc214738de7fbdb2f120c6f48deefcf60acc0b302fb16", func := "estuary/estuarylaw19.NodeLacks", spec := "nodeLacks", inPlace := ["internal/reflectlite.TypeOf", "internal/reflectlite.ValueOf", "(internal/reflectlite.Value).Type", "(internal/reflectlite.Value).IsNil", "(internal/reflectlite.Value).Elem", "(internal/reflectlite.Value).Set", "slices.overlaps[estuary/api.Cell]", "slices.overlaps[estuary/api.Done]", "internal/abi.NoEscape", "internal/bytealg.MakeNoZero"], unfollowed := true, recurses := true, named := ["errors.errorType"], apart := false, laid := [("errors.errorType", laid_errors_errorType)], narrowed := true }
def NodeLacksUptoSaid : Prop := nodeLacksUptoRow.holds Tryz.pinned (OpenSpec.upto nodeLacksSpec)

/-- 'estuarylaw19.NodeStray', WHERE WHAT IT READS IS OF BULK AT MOST 1048576: true; the input reads as it did. -/
def nodeStrayUptoRow : OpenClaim := { program := "ytkhaejbkdgbjcaagreatdoor", sum := "06b8a2f18d4a50ebf04bc214738de7fbdb2f120c6f48deefcf60acc0b302fb16", func := "estuary/estuarylaw19.NodeStray", spec := "nodeStray", inPlace := ["internal/reflectlite.TypeOf", "internal/reflectlite.ValueOf", "(internal/reflectlite.Value).Type", "(internal/reflectlite.Value).IsNil", "(internal/reflectlite.Value).Elem", "(internal/reflectlite.Value).Set", "slices.overlaps[estuary/api.Cell]", "slices.overlaps[estuary/api.Done]", "internal/abi.NoEscape", "internal/bytealg.MakeNoZero"], unfollowed := true, recurses := true, named := ["errors.errorType"], apart := false, laid := [("errors.errorType", laid_errors_errorType)], narrowed := true }
def NodeStrayUptoSaid : Prop := nodeStrayUptoRow.holds Tryz.pinned (OpenSpec.upto nodeStraySpec)

/-- 'estuarylaw19.NodeFeeds', WHERE WHAT IT READS IS OF BULK AT MOST 1048576: true; the input reads as it did. -/
def nodeFeedsUptoRow : OpenClaim := { program := "ytkhaejbkdgbjcaagreatdoor", sum := "06b8a2f18d4a50ebf04bc214738de7fbdb2f120c6f48deefcf60acc0b302fb16", func := "estuary/estuarylaw19.NodeFeeds", spec := "nodeFeeds", inPlace := ["internal/reflectlite.TypeOf", "internal/reflectlite.ValueOf", "(internal/reflectlite.Value).Type", "(internal/reflectlite.Value).IsNil", "(internal/reflectlite.Value).Elem", "(internal/reflectlite.Value).Set", "slices.overlaps[estuary/api.Cell]", "slices.overlaps[estuary/api.Done]", "internal/abi.NoEscape", "internal/bytealg.MakeNoZero"], unfollowed := true, recurses := true, named := ["errors.errorType"], apart := false, laid := [("errors.errorType", laid_errors_errorType)], narrowed := true }
def NodeFeedsUptoSaid : Prop := nodeFeedsUptoRow.holds Tryz.pinned (OpenSpec.upto nodeFeedsSpec)

/-- 'estuarylaw19.NodeCuts', WHERE WHAT IT READS IS OF BULK AT MOST 1048576: true; the input reads as it did. -/
def nodeCutsUptoRow : OpenClaim := { program := "ytkhaejbkdgbjcaagreatdoor", sum := "06b8a2f18d4a50ebf04bc214738de7fbdb2f120c6f48deefcf60acc0b302fb16", func := "estuary/estuarylaw19.NodeCuts", spec := "nodeCuts", inPlace := ["internal/reflectlite.TypeOf", "internal/reflectlite.ValueOf", "(internal/reflectlite.Value).Type", "(internal/reflectlite.Value).IsNil", "(internal/reflectlite.Value).Elem", "(internal/reflectlite.Value).Set", "slices.overlaps[estuary/api.Cell]", "slices.overlaps[estuary/api.Done]", "internal/abi.NoEscape", "internal/bytealg.MakeNoZero"], unfollowed := true, recurses := true, named := ["errors.errorType"], apart := false, laid := [("errors.errorType", laid_errors_errorType)], narrowed := true }
def NodeCutsUptoSaid : Prop := nodeCutsUptoRow.holds Tryz.pinned (OpenSpec.upto nodeCutsSpec)

end Rows
end Go.Proofs.YtkhaejbkdgbjcaaGreatDoor
