/- NodeLacks: reckoned. -/
import Derived.Test.YtkhaejbkdgbjcaaGreatDoorZ31
import Derived.KernelRfl
set_option linter.all false
set_option maxRecDepth 100000
namespace Go.Proofs
open Go Go.Ev
theorem aQ0 : quiR 0 = true := by kernel_rfl
theorem aQ1 : quiR 1 = true := by kernel_rfl
theorem aQ2 : quiR 2 = true := by kernel_rfl
theorem aQ3 : quiR 3 = true := by kernel_rfl
theorem aQ4 : quiR 4 = true := by kernel_rfl
end Go.Proofs
