/- NodeLacks: reckoned. -/
import Derived.Test.YtkhaejbkdgbjcaaGreatDoorZ31
import Derived.KernelRfl
set_option linter.all false
set_option maxRecDepth 100000
namespace Go.Proofs
open Go Go.Ev
theorem aQ25 : quiR 25 = true := by kernel_rfl
theorem aQ26 : quiR 26 = true := by kernel_rfl
theorem aQ27 : quiR 27 = true := by kernel_rfl
theorem aQ28 : quiR 28 = true := by kernel_rfl
theorem aQ29 : quiR 29 = true := by kernel_rfl
end Go.Proofs
