/- NodeHands: reckoned. -/
import Derived.Test.YtkhaejbkdgbjcaaGreatDoorZ20
import Derived.KernelRfl
set_option linter.all false
set_option maxRecDepth 100000
namespace Go.Proofs
open Go Go.Ev
theorem aP24 : putR 24 = true := by kernel_rfl
theorem aS24 : synR 24 = true := by kernel_rfl
theorem aH24 : hanR 24 = true := by kernel_rfl
theorem aP25 : putR 25 = true := by kernel_rfl
theorem aS25 : synR 25 = true := by kernel_rfl
theorem aH25 : hanR 25 = true := by kernel_rfl
theorem aP26 : putR 26 = true := by kernel_rfl
theorem aS26 : synR 26 = true := by kernel_rfl
theorem aH26 : hanR 26 = true := by kernel_rfl
end Go.Proofs
