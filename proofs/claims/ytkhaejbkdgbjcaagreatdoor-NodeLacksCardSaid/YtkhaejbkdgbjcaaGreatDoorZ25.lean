/- NodeHands: reckoned. -/
import Derived.Test.YtkhaejbkdgbjcaaGreatDoorZ20
import Derived.KernelRfl
set_option linter.all false
set_option maxRecDepth 100000
namespace Go.Proofs
open Go Go.Ev
theorem aP12 : putR 12 = true := by kernel_rfl
theorem aS12 : synR 12 = true := by kernel_rfl
theorem aH12 : hanR 12 = true := by kernel_rfl
theorem aP13 : putR 13 = true := by kernel_rfl
theorem aS13 : synR 13 = true := by kernel_rfl
theorem aH13 : hanR 13 = true := by kernel_rfl
theorem aP14 : putR 14 = true := by kernel_rfl
theorem aS14 : synR 14 = true := by kernel_rfl
theorem aH14 : hanR 14 = true := by kernel_rfl
end Go.Proofs
