/- NodeHands: reckoned. -/
import Derived.Test.YtkhaejbkdgbjcaaGreatDoorZ20
import Derived.KernelRfl
set_option linter.all false
set_option maxRecDepth 100000
namespace Go.Proofs
open Go Go.Ev
theorem aP18 : putR 18 = true := by kernel_rfl
theorem aS18 : synR 18 = true := by kernel_rfl
theorem aH18 : hanR 18 = true := by kernel_rfl
theorem aP19 : putR 19 = true := by kernel_rfl
theorem aS19 : synR 19 = true := by kernel_rfl
theorem aH19 : hanR 19 = true := by kernel_rfl
theorem aP20 : putR 20 = true := by kernel_rfl
theorem aS20 : synR 20 = true := by kernel_rfl
theorem aH20 : hanR 20 = true := by kernel_rfl
end Go.Proofs
