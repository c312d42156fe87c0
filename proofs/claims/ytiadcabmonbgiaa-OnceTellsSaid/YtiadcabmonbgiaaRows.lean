/-
  No cell of these rows narrows 'for every input' (looked for: loops, veiled, ifaces, maps, wideKeys, modest, calm, conditions, laid).
  DERIVED. THE GIVEN ROWS OF THIS SEAT. 8 by the template 'for every input the law returns true; each argument reads behind the call as it read before'; 0 by the template 'total and deterministic' (their statements: YtiadcabmonbgiaaTotals.lean).
  GIVEN WITH THE SEED: the statements are not yours to turn. If you find one false, say at which input.
  Laid BY PROGRAM, IN A SANDBOX (cutbox-rows.mjs): the forced cells as the released guide's own fill.sh prints them over the translation 43682404a1ae320d… (all of the seat's roots in one cut). By AI agents, Wed Nov 11 2026. No macro, syntax, notation, axiom, sorry.
-/
import Derived.Test.YtiadcabmonbgiaaChecked
import GoSem.Claim
import GoSem.ClaimJoined
import GoSem.ClaimMapViews
import Derived.JoinedTies
import Derived.KernelRfl
namespace Go.Proofs.Ytiadcabmonbgiaa
/- THE CELL 'sum', in the pinned program and in every row, IS THE sha256 OF THE DUMP (.gsa) THAT YtiadcabmonbgiaaProg.lean LOADS. Nothing in Lean hashes anything: it is a label: what it is worth is what the hold of that sum in a sandbox is worth. -/
noncomputable def Try.pinned : Pinned := { name := "ytiadcabmonbgiaa", sum := "43682404a1ae320d721f7809f29c177066591bbffc70ccbc432125583445b933", checked := Try.checked }
namespace Rows
def none {H : Type} : Left H := { results := [], args := [] }

/-- 'estuarylaw12.IndexTells': WHATEVER THE INPUT: true; the input reads as it did. -/
def indexTellsSpec : ChangeSpec := { name := "indexTells", fn := fun _ => fun
  | [d1, d2, d3, d4, d5] => { results := [.lit (.bool true)], args := [d1, d2, d3, d4, d5] }
  | _ => none }
def indexTellsRow : OpenClaim := { program := "ytiadcabmonbgiaa", sum := "43682404a1ae320d721f7809f29c177066591bbffc70ccbc432125583445b933", func := "estuary/estuarylaw12.IndexTells", spec := "indexTells", inPlace := ["slices.overlaps[estuary/api.Cell]"], apart := false }
def IndexTellsSaid : Prop := indexTellsRow.holds Try.pinned (OpenSpec.ofChange indexTellsSpec)

/-- ITS FALSE NEIGHBOUR: 'it returns false'. Refute it at one input. -/
def indexTellsWrong : ChangeSpec := { name := "indexTells", fn := fun _ => fun
  | [d1, d2, d3, d4, d5] => { results := [.lit (.bool false)], args := [d1, d2, d3, d4, d5] }
  | _ => none }
def IndexTellsWrongFalsely : Prop := indexTellsRow.holds Try.pinned (OpenSpec.ofChange indexTellsWrong)

/-- 'estuarylaw12.IndexBuilds': WHATEVER THE INPUT: true; the input reads as it did. -/
def indexBuildsSpec : ChangeSpec := { name := "indexBuilds", fn := fun _ => fun
  | [d] => { results := [.lit (.bool true)], args := [d] }
  | _ => none }
def indexBuildsRow : OpenClaim := { program := "ytiadcabmonbgiaa", sum := "43682404a1ae320d721f7809f29c177066591bbffc70ccbc432125583445b933", func := "estuary/estuarylaw12.IndexBuilds", spec := "indexBuilds", inPlace := ["slices.overlaps[estuary/api.Cell]"], apart := false }
def IndexBuildsSaid : Prop := indexBuildsRow.holds Try.pinned (OpenSpec.ofChange indexBuildsSpec)

/-- ITS FALSE NEIGHBOUR: 'it returns false'. Refute it at one input. -/
def indexBuildsWrong : ChangeSpec := { name := "indexBuilds", fn := fun _ => fun
  | [d] => { results := [.lit (.bool false)], args := [d] }
  | _ => none }
def IndexBuildsWrongFalsely : Prop := indexBuildsRow.holds Try.pinned (OpenSpec.ofChange indexBuildsWrong)

/-- 'estuarylaw12.IndexRows': WHATEVER THE INPUT: true; the input reads as it did. -/
def indexRowsSpec : ChangeSpec := { name := "indexRows", fn := fun _ => fun
  | [d1, d2, d3, d4] => { results := [.lit (.bool true)], args := [d1, d2, d3, d4] }
  | _ => none }
def indexRowsRow : OpenClaim := { program := "ytiadcabmonbgiaa", sum := "43682404a1ae320d721f7809f29c177066591bbffc70ccbc432125583445b933", func := "estuary/estuarylaw12.IndexRows", spec := "indexRows", inPlace := ["slices.overlaps[estuary/api.Cell]"], apart := false }
def IndexRowsSaid : Prop := indexRowsRow.holds Try.pinned (OpenSpec.ofChange indexRowsSpec)

/-- ITS FALSE NEIGHBOUR: 'it returns false'. Refute it at one input. -/
def indexRowsWrong : ChangeSpec := { name := "indexRows", fn := fun _ => fun
  | [d1, d2, d3, d4] => { results := [.lit (.bool false)], args := [d1, d2, d3, d4] }
  | _ => none }
def IndexRowsWrongFalsely : Prop := indexRowsRow.holds Try.pinned (OpenSpec.ofChange indexRowsWrong)

/-- 'estuarylaw14.OnceTells': WHATEVER THE INPUT: true; the input reads as it did. -/
def onceTellsSpec : ChangeSpec := { name := "onceTells", fn := fun _ => fun
  | [d1, d2, d3, d4, d5] => { results := [.lit (.bool true)], args := [d1, d2, d3, d4, d5] }
  | _ => none }
def onceTellsRow : OpenClaim := { program := "ytiadcabmonbgiaa", sum := "43682404a1ae320d721f7809f29c177066591bbffc70ccbc432125583445b933", func := "estuary/estuarylaw14.OnceTells", spec := "onceTells", inPlace := ["slices.overlaps[estuary/api.Done]"], unfollowed := true, recurses := true, apart := false }
def OnceTellsSaid : Prop := onceTellsRow.holds Try.pinned (OpenSpec.ofChange onceTellsSpec)

/-- ITS FALSE NEIGHBOUR: 'it returns false'. Refute it at one input. -/
def onceTellsWrong : ChangeSpec := { name := "onceTells", fn := fun _ => fun
  | [d1, d2, d3, d4, d5] => { results := [.lit (.bool false)], args := [d1, d2, d3, d4, d5] }
  | _ => none }
def OnceTellsWrongFalsely : Prop := onceTellsRow.holds Try.pinned (OpenSpec.ofChange onceTellsWrong)

/-- 'estuarylaw14.OnceJoins': WHATEVER THE INPUT: true; the input reads as it did. -/
def onceJoinsSpec : ChangeSpec := { name := "onceJoins", fn := fun _ => fun
  | [d1, d2, d3, d4] => { results := [.lit (.bool true)], args := [d1, d2, d3, d4] }
  | _ => none }
def onceJoinsRow : OpenClaim := { program := "ytiadcabmonbgiaa", sum := "43682404a1ae320d721f7809f29c177066591bbffc70ccbc432125583445b933", func := "estuary/estuarylaw14.OnceJoins", spec := "onceJoins", inPlace := ["slices.overlaps[estuary/api.Done]"], unfollowed := true, recurses := true, apart := false }
def OnceJoinsSaid : Prop := onceJoinsRow.holds Try.pinned (OpenSpec.ofChange onceJoinsSpec)

/-- ITS FALSE NEIGHBOUR: 'it returns false'. Refute it at one input. -/
def onceJoinsWrong : ChangeSpec := { name := "onceJoins", fn := fun _ => fun
  | [d1, d2, d3, d4] => { results := [.lit (.bool false)], args := [d1, d2, d3, d4] }
  | _ => none }
def OnceJoinsWrongFalsely : Prop := onceJoinsRow.holds Try.pinned (OpenSpec.ofChange onceJoinsWrong)

/-- 'estuarylaw14.OnceRuns': WHATEVER THE INPUT: true; the input reads as it did. -/
def onceRunsSpec : ChangeSpec := { name := "onceRuns", fn := fun _ => fun
  | [d1, d2] => { results := [.lit (.bool true)], args := [d1, d2] }
  | _ => none }
def onceRunsRow : OpenClaim := { program := "ytiadcabmonbgiaa", sum := "43682404a1ae320d721f7809f29c177066591bbffc70ccbc432125583445b933", func := "estuary/estuarylaw14.OnceRuns", spec := "onceRuns", inPlace := ["slices.overlaps[estuary/api.Done]"], unfollowed := true, recurses := true, apart := false }
def OnceRunsSaid : Prop := onceRunsRow.holds Try.pinned (OpenSpec.ofChange onceRunsSpec)

/-- ITS FALSE NEIGHBOUR: 'it returns false'. Refute it at one input. -/
def onceRunsWrong : ChangeSpec := { name := "onceRuns", fn := fun _ => fun
  | [d1, d2] => { results := [.lit (.bool false)], args := [d1, d2] }
  | _ => none }
def OnceRunsWrongFalsely : Prop := onceRunsRow.holds Try.pinned (OpenSpec.ofChange onceRunsWrong)

/-- 'estuarylaw2.TokenBest': WHATEVER THE INPUT: true; the input reads as it did. -/
def tokenBestSpec : ChangeSpec := { name := "tokenBest", fn := fun _ => fun
  | [d1, d2, d3] => { results := [.lit (.bool true)], args := [d1, d2, d3] }
  | _ => none }
def tokenBestRow : OpenClaim := { program := "ytiadcabmonbgiaa", sum := "43682404a1ae320d721f7809f29c177066591bbffc70ccbc432125583445b933", func := "estuary/estuarylaw2.TokenBest", spec := "tokenBest", inPlace := ["slices.overlaps[estuary/api.Seen]"], unfollowed := true, recurses := true, apart := false }
def TokenBestSaid : Prop := tokenBestRow.holds Try.pinned (OpenSpec.ofChange tokenBestSpec)

/-- ITS FALSE NEIGHBOUR: 'it returns false'. Refute it at one input. -/
def tokenBestWrong : ChangeSpec := { name := "tokenBest", fn := fun _ => fun
  | [d1, d2, d3] => { results := [.lit (.bool false)], args := [d1, d2, d3] }
  | _ => none }
def TokenBestWrongFalsely : Prop := tokenBestRow.holds Try.pinned (OpenSpec.ofChange tokenBestWrong)

/-- 'estuarylaw2.TokenGrows': WHATEVER THE INPUT: true; the input reads as it did. -/
def tokenGrowsSpec : ChangeSpec := { name := "tokenGrows", fn := fun _ => fun
  | [d1, d2, d3] => { results := [.lit (.bool true)], args := [d1, d2, d3] }
  | _ => none }
def tokenGrowsRow : OpenClaim := { program := "ytiadcabmonbgiaa", sum := "43682404a1ae320d721f7809f29c177066591bbffc70ccbc432125583445b933", func := "estuary/estuarylaw2.TokenGrows", spec := "tokenGrows", inPlace := ["slices.overlaps[estuary/api.Seen]"], unfollowed := true, recurses := true, apart := false }
def TokenGrowsSaid : Prop := tokenGrowsRow.holds Try.pinned (OpenSpec.ofChange tokenGrowsSpec)

/-- ITS FALSE NEIGHBOUR: 'it returns false'. Refute it at one input. -/
def tokenGrowsWrong : ChangeSpec := { name := "tokenGrows", fn := fun _ => fun
  | [d1, d2, d3] => { results := [.lit (.bool false)], args := [d1, d2, d3] }
  | _ => none }
def TokenGrowsWrongFalsely : Prop := tokenGrowsRow.holds Try.pinned (OpenSpec.ofChange tokenGrowsWrong)

/- THE SECOND FORM. 'bulk': how many values and letters a reading holds, each counted each time it is reached (what is shared counts as often as it is met; a slice's spare places count too). A statement '..UptoSaid' is the law's where the arguments, and the package variables that the reading takes, are together of bulk at most 1048576: NARROWER than '..Said'. Prove '..Said' where nothing that the law and all that it calls make is longer than what came in: it says more and counts as full. Else prove '..UptoSaid'. A law counts once. -/
mutual
def uptoBulk {H : Type} : DataW H → Nat
  | .lit (.string bytes) => bytes.length + 1
  | .lit _ => 1
  | .nil => 1
  | .ptr d => uptoBulk d + 1
  | .slice elems spare => uptoBulkAll elems + uptoBulkAll spare + 1
  | .agg parts => uptoBulkAll parts + 1
  | .iface _ d => uptoBulk d + 1
  | .map entries => uptoBulkEntries entries + 1
  | .held _ => 1
def uptoBulkAll {H : Type} : List (DataW H) → Nat
  | [] => 0
  | d :: r => uptoBulk d + uptoBulkAll r
def uptoBulkEntries {H : Type} : List (Lit × DataW H) → Nat
  | [] => 0
  | x :: r => uptoBulkEntry x + uptoBulkEntries r
def uptoBulkEntry {H : Type} : Lit × DataW H → Nat
  | (.string bytes, d) => bytes.length + uptoBulk d + 1
  | (_, d) => uptoBulk d + 1
 end
def uptoSmall : (H : Type) → List (DataW H) → Bool := fun _ ds => decide (uptoBulkAll ds ≤ 1048576)
def OpenSpec.upto (s : _root_.Go.ChangeSpec) : _root_.Go.OpenSpec := { _root_.Go.OpenSpec.ofChange s with cond := some uptoSmall }

/-- 'estuarylaw12.IndexTells', WHERE WHAT IT READS IS OF BULK AT MOST 1048576: true; the input reads as it did. -/
def indexTellsUptoRow : OpenClaim := { program := "ytiadcabmonbgiaa", sum := "43682404a1ae320d721f7809f29c177066591bbffc70ccbc432125583445b933", func := "estuary/estuarylaw12.IndexTells", spec := "indexTells", inPlace := ["slices.overlaps[estuary/api.Cell]"], apart := false, narrowed := true }
def IndexTellsUptoSaid : Prop := indexTellsUptoRow.holds Try.pinned (OpenSpec.upto indexTellsSpec)

/-- 'estuarylaw12.IndexBuilds', WHERE WHAT IT READS IS OF BULK AT MOST 1048576: true; the input reads as it did. -/
def indexBuildsUptoRow : OpenClaim := { program := "ytiadcabmonbgiaa", sum := "43682404a1ae320d721f7809f29c177066591bbffc70ccbc432125583445b933", func := "estuary/estuarylaw12.IndexBuilds", spec := "indexBuilds", inPlace := ["slices.overlaps[estuary/api.Cell]"], apart := false, narrowed := true }
def IndexBuildsUptoSaid : Prop := indexBuildsUptoRow.holds Try.pinned (OpenSpec.upto indexBuildsSpec)

/-- 'estuarylaw12.IndexRows', WHERE WHAT IT READS IS OF BULK AT MOST 1048576: true; the input reads as it did. -/
def indexRowsUptoRow : OpenClaim := { program := "ytiadcabmonbgiaa", sum := "43682404a1ae320d721f7809f29c177066591bbffc70ccbc432125583445b933", func := "estuary/estuarylaw12.IndexRows", spec := "indexRows", inPlace := ["slices.overlaps[estuary/api.Cell]"], apart := false, narrowed := true }
def IndexRowsUptoSaid : Prop := indexRowsUptoRow.holds Try.pinned (OpenSpec.upto indexRowsSpec)

/-- 'estuarylaw14.OnceTells', WHERE WHAT IT READS IS OF BULK AT MOST 1048576: true; the input reads as it did. -/
def onceTellsUptoRow : OpenClaim := { program := "ytiadcabmonbgiaa", sum := "43682404a1ae320d721f7809f29c177066591bbffc70ccbc432125583445b933", func := "estuary/estuarylaw14.OnceTells", spec := "onceTells", inPlace := ["slices.overlaps[estuary/api.Done]"], unfollowed := true, recurses := true, apart := false, narrowed := true }
def OnceTellsUptoSaid : Prop := onceTellsUptoRow.holds Try.pinned (OpenSpec.upto onceTellsSpec)

/-- 'estuarylaw14.OnceJoins', WHERE WHAT IT READS IS OF BULK AT MOST 1048576: true; the input reads as it did. -/
def onceJoinsUptoRow : OpenClaim := { program := "ytiadcabmonbgiaa", sum := "43682404a1ae320d721f7809f29c177066591bbffc70ccbc432125583445b933", func := "estuary/estuarylaw14.OnceJoins", spec := "onceJoins", inPlace := ["slices.overlaps[estuary/api.Done]"], unfollowed := true, recurses := true, apart := false, narrowed := true }
def OnceJoinsUptoSaid : Prop := onceJoinsUptoRow.holds Try.pinned (OpenSpec.upto onceJoinsSpec)

/-- 'estuarylaw14.OnceRuns', WHERE WHAT IT READS IS OF BULK AT MOST 1048576: true; the input reads as it did. -/
def onceRunsUptoRow : OpenClaim := { program := "ytiadcabmonbgiaa", sum := "43682404a1ae320d721f7809f29c177066591bbffc70ccbc432125583445b933", func := "estuary/estuarylaw14.OnceRuns", spec := "onceRuns", inPlace := ["slices.overlaps[estuary/api.Done]"], unfollowed := true, recurses := true, apart := false, narrowed := true }
def OnceRunsUptoSaid : Prop := onceRunsUptoRow.holds Try.pinned (OpenSpec.upto onceRunsSpec)

/-- 'estuarylaw2.TokenBest', WHERE WHAT IT READS IS OF BULK AT MOST 1048576: true; the input reads as it did. -/
def tokenBestUptoRow : OpenClaim := { program := "ytiadcabmonbgiaa", sum := "43682404a1ae320d721f7809f29c177066591bbffc70ccbc432125583445b933", func := "estuary/estuarylaw2.TokenBest", spec := "tokenBest", inPlace := ["slices.overlaps[estuary/api.Seen]"], unfollowed := true, recurses := true, apart := false, narrowed := true }
def TokenBestUptoSaid : Prop := tokenBestUptoRow.holds Try.pinned (OpenSpec.upto tokenBestSpec)

/-- 'estuarylaw2.TokenGrows', WHERE WHAT IT READS IS OF BULK AT MOST 1048576: true; the input reads as it did. -/
def tokenGrowsUptoRow : OpenClaim := { program := "ytiadcabmonbgiaa", sum := "43682404a1ae320d721f7809f29c177066591bbffc70ccbc432125583445b933", func := "estuary/estuarylaw2.TokenGrows", spec := "tokenGrows", inPlace := ["slices.overlaps[estuary/api.Seen]"], unfollowed := true, recurses := true, apart := false, narrowed := true }
def TokenGrowsUptoSaid : Prop := tokenGrowsUptoRow.holds Try.pinned (OpenSpec.upto tokenGrowsSpec)

end Rows
end Go.Proofs.Ytiadcabmonbgiaa
