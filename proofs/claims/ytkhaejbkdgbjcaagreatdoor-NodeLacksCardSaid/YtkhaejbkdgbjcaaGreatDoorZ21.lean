/- NodeHands: reckoned. -/
import Derived.Test.YtkhaejbkdgbjcaaGreatDoorZ20
import Derived.KernelRfl
set_option linter.all false
set_option maxRecDepth 100000
namespace Go.Proofs
open Go Go.Ev
theorem aP0 : putR 0 = true := by kernel_rfl
theorem aS0 : synR 0 = true := by kernel_rfl
theorem aH0 : hanR 0 = true := by kernel_rfl
theorem aP1 : putR 1 = true := by kernel_rfl
theorem aS1 : synR 1 = true := by kernel_rfl
theorem aH1 : hanR 1 = true := by kernel_rfl
theorem aP2 : putR 2 = true := by kernel_rfl
theorem aS2 : synR 2 = true := by kernel_rfl
theorem aH2 : hanR 2 = true := by kernel_rfl
end Go.Proofs
