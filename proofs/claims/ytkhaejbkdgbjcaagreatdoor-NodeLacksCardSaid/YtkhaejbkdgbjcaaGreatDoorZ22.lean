/- NodeHands: reckoned. -/
import Derived.Test.YtkhaejbkdgbjcaaGreatDoorZ20
import Derived.KernelRfl
set_option linter.all false
set_option maxRecDepth 100000
namespace Go.Proofs
open Go Go.Ev
theorem aP3 : putR 3 = true := by kernel_rfl
theorem aS3 : synR 3 = true := by kernel_rfl
theorem aH3 : hanR 3 = true := by kernel_rfl
theorem aP4 : putR 4 = true := by kernel_rfl
theorem aS4 : synR 4 = true := by kernel_rfl
theorem aH4 : hanR 4 = true := by kernel_rfl
theorem aP5 : putR 5 = true := by kernel_rfl
theorem aS5 : synR 5 = true := by kernel_rfl
theorem aH5 : hanR 5 = true := by kernel_rfl
end Go.Proofs
