/- NodeLacks: reckoned. -/
import Derived.Test.YtkhaejbkdgbjcaaGreatDoorZ31
import Derived.KernelRfl
set_option linter.all false
set_option maxRecDepth 100000
namespace Go.Proofs
open Go Go.Ev
theorem aQ20 : quiR 20 = true := by kernel_rfl
theorem aQ21 : quiR 21 = true := by kernel_rfl
theorem aQ22 : quiR 22 = true := by kernel_rfl
theorem aQ23 : quiR 23 = true := by kernel_rfl
theorem aQ24 : quiR 24 = true := by kernel_rfl
end Go.Proofs
