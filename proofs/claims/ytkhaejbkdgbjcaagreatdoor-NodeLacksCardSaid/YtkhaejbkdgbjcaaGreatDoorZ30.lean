/- NodeHands: reckoned. -/
import Derived.Test.YtkhaejbkdgbjcaaGreatDoorZ20
import Derived.KernelRfl
set_option linter.all false
set_option maxRecDepth 100000
namespace Go.Proofs
open Go Go.Ev
theorem aP27 : putR 27 = true := by kernel_rfl
theorem aS27 : synR 27 = true := by kernel_rfl
theorem aH27 : hanR 27 = true := by kernel_rfl
theorem aP28 : putR 28 = true := by kernel_rfl
theorem aS28 : synR 28 = true := by kernel_rfl
theorem aH28 : hanR 28 = true := by kernel_rfl
theorem aS29 : synR 29 = true := by kernel_rfl
theorem aH29 : hanR 29 = true := by kernel_rfl
end Go.Proofs
