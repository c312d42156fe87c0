/- NodeHands: reckoned. -/
import Derived.Test.YtkhaejbkdgbjcaaGreatDoorZ20
import Derived.KernelRfl
set_option linter.all false
set_option maxRecDepth 100000
namespace Go.Proofs
open Go Go.Ev
theorem aP21 : putR 21 = true := by kernel_rfl
theorem aS21 : synR 21 = true := by kernel_rfl
theorem aH21 : hanR 21 = true := by kernel_rfl
theorem aP22 : putR 22 = true := by kernel_rfl
theorem aS22 : synR 22 = true := by kernel_rfl
theorem aH22 : hanR 22 = true := by kernel_rfl
theorem aP23 : putR 23 = true := by kernel_rfl
theorem aS23 : synR 23 = true := by kernel_rfl
theorem aH23 : hanR 23 = true := by kernel_rfl
end Go.Proofs
