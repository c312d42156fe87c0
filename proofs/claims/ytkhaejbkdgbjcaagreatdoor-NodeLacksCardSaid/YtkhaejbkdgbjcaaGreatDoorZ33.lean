/- NodeLacks: reckoned. -/
import Derived.Test.YtkhaejbkdgbjcaaGreatDoorZ31
import Derived.KernelRfl
set_option linter.all false
set_option maxRecDepth 100000
namespace Go.Proofs
open Go Go.Ev
theorem aQ5 : quiR 5 = true := by kernel_rfl
theorem aQ6 : quiR 6 = true := by kernel_rfl
theorem aQ7 : quiR 7 = true := by kernel_rfl
theorem aQ8 : quiR 8 = true := by kernel_rfl
theorem aQ9 : quiR 9 = true := by kernel_rfl
end Go.Proofs
