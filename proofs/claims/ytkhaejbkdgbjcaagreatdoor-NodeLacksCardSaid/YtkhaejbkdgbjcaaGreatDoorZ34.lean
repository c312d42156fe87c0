/- NodeLacks: reckoned. -/
import Derived.Test.YtkhaejbkdgbjcaaGreatDoorZ31
import Derived.KernelRfl
set_option linter.all false
set_option maxRecDepth 100000
namespace Go.Proofs
open Go Go.Ev
theorem aQ10 : quiR 10 = true := by kernel_rfl
theorem aQ11 : quiR 11 = true := by kernel_rfl
theorem aQ12 : quiR 12 = true := by kernel_rfl
theorem aQ13 : quiR 13 = true := by kernel_rfl
theorem aQ14 : quiR 14 = true := by kernel_rfl
end Go.Proofs
