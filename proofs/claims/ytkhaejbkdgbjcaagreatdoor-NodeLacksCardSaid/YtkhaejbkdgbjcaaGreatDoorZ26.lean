/- NodeHands: reckoned. -/
import Derived.Test.YtkhaejbkdgbjcaaGreatDoorZ20
import Derived.KernelRfl
set_option linter.all false
set_option maxRecDepth 100000
namespace Go.Proofs
open Go Go.Ev
theorem aP15 : putR 15 = true := by kernel_rfl
theorem aS15 : synR 15 = true := by kernel_rfl
theorem aH15 : hanR 15 = true := by kernel_rfl
theorem aP16 : putR 16 = true := by kernel_rfl
theorem aS16 : synR 16 = true := by kernel_rfl
theorem aH16 : hanR 16 = true := by kernel_rfl
theorem aP17 : putR 17 = true := by kernel_rfl
theorem aS17 : synR 17 = true := by kernel_rfl
theorem aH17 : hanR 17 = true := by kernel_rfl
end Go.Proofs
