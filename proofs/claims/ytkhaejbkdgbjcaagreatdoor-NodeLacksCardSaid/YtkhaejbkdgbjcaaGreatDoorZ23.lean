/- NodeHands: reckoned. -/
import Derived.Test.YtkhaejbkdgbjcaaGreatDoorZ20
import Derived.KernelRfl
set_option linter.all false
set_option maxRecDepth 100000
namespace Go.Proofs
open Go Go.Ev
theorem aP6 : putR 6 = true := by kernel_rfl
theorem aS6 : synR 6 = true := by kernel_rfl
theorem aH6 : hanR 6 = true := by kernel_rfl
theorem aP7 : putR 7 = true := by kernel_rfl
theorem aS7 : synR 7 = true := by kernel_rfl
theorem aH7 : hanR 7 = true := by kernel_rfl
theorem aP8 : putR 8 = true := by kernel_rfl
theorem aS8 : synR 8 = true := by kernel_rfl
theorem aH8 : hanR 8 = true := by kernel_rfl
end Go.Proofs
