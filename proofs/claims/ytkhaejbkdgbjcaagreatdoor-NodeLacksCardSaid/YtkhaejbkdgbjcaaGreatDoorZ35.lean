/- NodeLacks: reckoned. -/
import Derived.Test.YtkhaejbkdgbjcaaGreatDoorZ31
import Derived.KernelRfl
set_option linter.all false
set_option maxRecDepth 100000
namespace Go.Proofs
open Go Go.Ev
theorem aQ15 : quiR 15 = true := by kernel_rfl
theorem aQ16 : quiR 16 = true := by kernel_rfl
theorem aQ17 : quiR 17 = true := by kernel_rfl
theorem aQ18 : quiR 18 = true := by kernel_rfl
theorem aQ19 : quiR 19 = true := by kernel_rfl
end Go.Proofs
