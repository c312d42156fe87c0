/-
  NARROWER THAN 'FOR EVERY INPUT', by the rows' own cells (each row's printed sentence says how): HoldBytes: laid · HoldMoves: laid.
  DERIVED. THE GIVEN ROWS OF THIS SEAT. 2 by the template 'for every input the law returns true; each argument reads behind the call as it read before'; 0 by the template 'total and deterministic' (their statements: YtilfojgiinaklaaGreatDoorTotals.lean).
  GIVEN WITH THE SEED: the statements are not yours to turn. If you find one false, say at which input.
  Laid BY PROGRAM, IN A SANDBOX (cutbox-rows.mjs): the forced cells as the released guide's own fill.sh prints them over the translation 4a0087ad3606ae93… (all of the seat's roots in one cut). By AI agents, Wed Nov 11 2026. No macro, syntax, notation, axiom, sorry.
-/
import Derived.Test.YtilfojgiinaklaaGreatDoorChecked
import GoSem.Claim
import GoSem.ClaimJoined
import GoSem.ClaimMapViews
import Derived.JoinedTies
import Derived.KernelRfl
namespace Go.Proofs.YtilfojgiinaklaaGreatDoor
/- THE CELL 'sum', in the pinned program and in every row, IS THE sha256 OF THE DUMP (.gsa) THAT YtilfojgiinaklaaGreatDoorProg.lean LOADS. Nothing in Lean hashes anything: it is a label: what it is worth is what the hold of that sum in a sandbox is worth. -/
noncomputable def Tryz.pinned : Pinned := { name := "ytilfojgiinaklaagreatdoor", sum := "4a0087ad3606ae93a7ba169ab3f3111cb5faed5a51154f86263d8c1c6cac9dc6", checked := Tryz.checked }
namespace Rows
def none {H : Type} : Left H := { results := [], args := [] }

/- WHAT THE LISTED PACKAGE-LEVEL VARIABLES READ AS WHEN THE CALL BEGINS. Each datum BY PROGRAM (the guide's laid-datum.mjs) off the statement by which the dump's own 'gosem.cut.vars' lays the variable. In a bare row this is a premise. The card (YtilfojgiinaklaaGreatDoorCards.lean) ties it to the program's text. -/
def laid_errors_errorType {H : Type} : DataW H := .iface "internal/reflectlite.rtype" (.agg [.ptr (.lit (.string [101, 114, 114, 111, 114]))])

/-- 'estuarylaw18.HoldBytes': WHATEVER THE INPUT: true; the input reads as it did. -/
def holdBytesSpec : ChangeSpec := { name := "holdBytes", fn := fun _ => fun
  | [d1, d2, d3] => { results := [.lit (.bool true)], args := [d1, d2, d3] }
  | _ => none }
def holdBytesRow : OpenClaim := { program := "ytilfojgiinaklaagreatdoor", sum := "4a0087ad3606ae93a7ba169ab3f3111cb5faed5a51154f86263d8c1c6cac9dc6", func := "estuary/estuarylaw18.HoldBytes", spec := "holdBytes", inPlace := ["slices.overlaps[estuary/api.Cell]", "internal/reflectlite.ValueOf", "(internal/reflectlite.Value).Type", "(internal/reflectlite.Value).IsNil", "internal/reflectlite.TypeOf", "(internal/reflectlite.Value).Elem", "(internal/reflectlite.Value).Set", "slices.overlaps[estuary/api.Done]"], unfollowed := true, recurses := true, named := ["errors.errorType"], apart := false, laid := [("errors.errorType", laid_errors_errorType)] }
def HoldBytesSaid : Prop := holdBytesRow.holds Tryz.pinned (OpenSpec.ofChange holdBytesSpec)

/-- ITS FALSE NEIGHBOUR: 'it returns false'. Refute it at one input. -/
def holdBytesWrong : ChangeSpec := { name := "holdBytes", fn := fun _ => fun
  | [d1, d2, d3] => { results := [.lit (.bool false)], args := [d1, d2, d3] }
  | _ => none }
def HoldBytesWrongFalsely : Prop := holdBytesRow.holds Tryz.pinned (OpenSpec.ofChange holdBytesWrong)

/-- 'estuarylaw18.HoldMoves': WHATEVER THE INPUT: true; the input reads as it did. -/
def holdMovesSpec : ChangeSpec := { name := "holdMoves", fn := fun _ => fun
  | [d1, d2] => { results := [.lit (.bool true)], args := [d1, d2] }
  | _ => none }
def holdMovesRow : OpenClaim := { program := "ytilfojgiinaklaagreatdoor", sum := "4a0087ad3606ae93a7ba169ab3f3111cb5faed5a51154f86263d8c1c6cac9dc6", func := "estuary/estuarylaw18.HoldMoves", spec := "holdMoves", inPlace := ["slices.overlaps[estuary/api.Cell]", "internal/reflectlite.ValueOf", "(internal/reflectlite.Value).Type", "(internal/reflectlite.Value).IsNil", "internal/reflectlite.TypeOf", "(internal/reflectlite.Value).Elem", "(internal/reflectlite.Value).Set", "slices.overlaps[estuary/api.Done]"], unfollowed := true, recurses := true, named := ["errors.errorType"], apart := false, laid := [("errors.errorType", laid_errors_errorType)] }
def HoldMovesSaid : Prop := holdMovesRow.holds Tryz.pinned (OpenSpec.ofChange holdMovesSpec)

/-- ITS FALSE NEIGHBOUR: 'it returns false'. Refute it at one input. -/
def holdMovesWrong : ChangeSpec := { name := "holdMoves", fn := fun _ => fun
  | [d1, d2] => { results := [.lit (.bool false)], args := [d1, d2] }
  | _ => none }
def HoldMovesWrongFalsely : Prop := holdMovesRow.holds Tryz.pinned (OpenSpec.ofChange holdMovesWrong)

/- THE SECOND FORM. 'bulk': how many values and letters a reading holds, each counted each time it is reached (what is shared counts as often as it is met; a slice's spare places count too). A statement '..UptoSaid' is the law's where the arguments, and the package variables that the reading takes, are together of bulk at most 1048576: NARROWER than '..Said'. Prove '..Said' where nothing that the law and all that it calls make is longer than what came in: it says more and counts as full. Else prove '..UptoSaid'. A law counts once. -/
mutual
def uptoBulk {H : Type} : DataW H → Nat
  | .lit (.string bytes) => bytes.length + 1
  | .lit _ => 1
  | .nil => 1
  | .ptr d => uptoBulk d + 1
  | .slice elems spare => uptoBulkAll elems + uptoBulkAll spare + 1
  | .agg parts => uptoBulkAll parts + 1
  | .iface _ d => uptoBulk d + 1
  | .map entries => uptoBulkEntries entries + 1
  | .held _ => 1
def uptoBulkAll {H : Type} : List (DataW H) → Nat
  | [] => 0
  | d :: r => uptoBulk d + uptoBulkAll r
def uptoBulkEntries {H : Type} : List (Lit × DataW H) → Nat
  | [] => 0
  | x :: r => uptoBulkEntry x + uptoBulkEntries r
def uptoBulkEntry {H : Type} : Lit × DataW H → Nat
  | (.string bytes, d) => bytes.length + uptoBulk d + 1
  | (_, d) => uptoBulk d + 1
 end
def uptoSmall : (H : Type) → List (DataW H) → Bool := fun _ ds => decide (uptoBulkAll ds ≤ 1048576)
def OpenSpec.upto (s : _root_.Go.ChangeSpec) : _root_.Go.OpenSpec := { _root_.Go.OpenSpec.ofChange s with cond := some uptoSmall }

/-- 'estuarylaw18.HoldBytes', WHERE WHAT IT READS IS OF BULK AT MOST 1048576: true; the input reads as it did. -/
def holdBytesUptoRow : OpenClaim := { program := "ytilfojgiinaklaagreatdoor", sum := "4a0087ad3606ae93a7ba169ab3f3111cb5faed5a51154f86263d8c1c6cac9dc6", func := "estuary/estuarylaw18.HoldBytes", spec := "holdBytes", inPlace := ["slices.overlaps[estuary/api.Cell]", "internal/reflectlite.ValueOf", "(internal/reflectlite.Value).Type", "(internal/reflectlite.Value).IsNil", "internal/reflectlite.TypeOf", "(internal/reflectlite.Value).Elem", "(internal/reflectlite.Value).Set", "slices.overlaps[estuary/api.Done]"], unfollowed := true, recurses := true, named := ["errors.errorType"], apart := false, laid := [("errors.errorType", laid_errors_errorType)], narrowed := true }
def HoldBytesUptoSaid : Prop := holdBytesUptoRow.holds Tryz.pinned (OpenSpec.upto holdBytesSpec)

/-- 'estuarylaw18.HoldMoves', WHERE WHAT IT READS IS OF BULK AT MOST 1048576: true; the input reads as it did. -/
def holdMovesUptoRow : OpenClaim := { program := "ytilfojgiinaklaagreatdoor", sum := "4a0087ad3606ae93a7ba169ab3f3111cb5faed5a51154f86263d8c1c6cac9dc6", func := "estuary/estuarylaw18.HoldMoves", spec := "holdMoves", inPlace := ["slices.overlaps[estuary/api.Cell]", "internal/reflectlite.ValueOf", "(internal/reflectlite.Value).Type", "(internal/reflectlite.Value).IsNil", "internal/reflectlite.TypeOf", "(internal/reflectlite.Value).Elem", "(internal/reflectlite.Value).Set", "slices.overlaps[estuary/api.Done]"], unfollowed := true, recurses := true, named := ["errors.errorType"], apart := false, laid := [("errors.errorType", laid_errors_errorType)], narrowed := true }
def HoldMovesUptoSaid : Prop := holdMovesUptoRow.holds Tryz.pinned (OpenSpec.upto holdMovesSpec)

end Rows
end Go.Proofs.YtilfojgiinaklaaGreatDoor
