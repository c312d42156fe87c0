/- part. -/
import Derived.Test.YtglpihajimhekaaGreatDoorZ29
set_option linter.all false
set_option maxRecDepth 100000
namespace Go.Proofs.YtglpihajimhekaaGreatDoor
open Go Go.Ev Go.ChangeShapes Go.WideShapes Go.ChangeAt Go.RowKit
theorem nodeTorn_holds : Rows.NodeTornSaid :=
 OpenClaim.holds_of_wide 3 Tryz.f3 rfl rfl rfl rfl rfl rfl rfl ⟨rfl, rfl, rfl, rfl, rfl⟩ rfl rfl rfl rfl rfl (by kernel_rfl) Tryz.func3 (by kernel_rfl)
  (of_decide_eq_true (by kernel_rfl)) (by unfold Func.isWrapper; first | (rw [if_pos (by decide +kernel)]; kernel_rfl) | (rw [if_neg (by decide +kernel)]; exact ⟨rfl, rfl⟩))
  (fun os started H enc _ => nodeTorn_lifted os started H enc)
end Go.Proofs.YtglpihajimhekaaGreatDoor
