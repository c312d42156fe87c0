/- part. -/
import Derived.Test.YtglpihajimhekaaGreatDoorZ30
set_option linter.all false
set_option maxRecDepth 100000
namespace Go.Proofs.YtglpihajimhekaaGreatDoor
open Go Go.Ev Go.ChangeShapes Go.WideShapes Go.ChangeAt Go.RowKit
theorem nodeTorn_card : Rows.NodeTornCardSaid :=
 Claim7.holds_tied_plain_at .later [] [.handle] true (true, "0e9618a90dc4a223acef1df54becf7dae7513b4920495d46bbfafb6cc809e8a7") true
  nodeTorn_holds (fun _ h => by cases h) (by kernel_rfl) (fun _ h => by cases h) nodeTorn_row_tie rfl ⟨rfl, rfl⟩ (by kernel_rfl) rfl
  (fun f fn hf hfn => by
   obtain rfl : f = 3 := Option.some.inj ((show Tryz.prog.funcNamed "estuary/estuarylaw19.NodeTorn" = some 3 by kernel_rfl).symm.trans hf) |>.symm
   obtain rfl : fn = Tryz.f3 := (Option.some.inj (Tryz.func3.symm.trans hfn)).symm
   exact ⟨by kernel_rfl, fun j t ht => by
    rw [Tryz.params3] at ht
    match j, ht with
    | 0, ht => obtain rfl : t = 22 := (by simpa using ht.symm); exact (show Tryz.prog.wantsStandIn 22 = false by kernel_rfl)
    | 1, ht => obtain rfl : t = 5 := (by simpa using ht.symm); exact (show Tryz.prog.wantsStandIn 5 = false by kernel_rfl)
    | 2, ht => obtain rfl : t = 23 := (by simpa using ht.symm); exact (show Tryz.prog.wantsStandIn 23 = false by kernel_rfl)
    | j + 3, ht => simp at ht⟩)
  (by kernel_rfl)
end Go.Proofs.YtglpihajimhekaaGreatDoor
#print axioms Go.Proofs.YtglpihajimhekaaGreatDoor.nodeTorn_card
