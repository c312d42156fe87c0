/- NodeHands: reckoned. -/
import Derived.Test.YtkhaejbkdgbjcaaGreatDoorZ20
import Derived.KernelRfl
set_option linter.all false
set_option maxRecDepth 100000
namespace Go.Proofs
open Go Go.Ev
theorem aP9 : putR 9 = true := by kernel_rfl
theorem aS9 : synR 9 = true := by kernel_rfl
theorem aH9 : hanR 9 = true := by kernel_rfl
theorem aP10 : putR 10 = true := by kernel_rfl
theorem aS10 : synR 10 = true := by kernel_rfl
theorem aH10 : hanR 10 = true := by kernel_rfl
theorem aP11 : putR 11 = true := by kernel_rfl
theorem aS11 : synR 11 = true := by kernel_rfl
theorem aH11 : hanR 11 = true := by kernel_rfl
end Go.Proofs
