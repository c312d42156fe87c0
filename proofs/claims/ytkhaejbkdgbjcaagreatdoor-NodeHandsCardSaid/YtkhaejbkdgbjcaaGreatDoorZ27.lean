/- NodeHands: reckoned. -/
import Derived.Test.YtkhaejbkdgbjcaaGreatDoorZ26
import Derived.KernelRfl
set_option linter.all false
set_option maxRecDepth 100000
namespace Go.Proofs
open Go Go.Ev
theorem aP12 : putR 12 = true := by kernel_rfl
theorem aS12 : synR 12 = true := by kernel_rfl
theorem aH12 : hanR 12 = true := by kernel_rfl
theorem aR12 (n : Nat) : recR 12 n := ⟨by kernel_rfl, by kernel_rfl⟩
theorem aY12 (n : Nat) : sy2R 12 n := ⟨by kernel_rfl, by kernel_rfl⟩
theorem aZ12 : pu2R 12 = true := by kernel_rfl
theorem aW12 : sy3R 12 = true := by kernel_rfl
theorem aP13 : putR 13 = true := by kernel_rfl
theorem aS13 : synR 13 = true := by kernel_rfl
theorem aH13 : hanR 13 = true := by kernel_rfl
theorem aR13 (n : Nat) : recR 13 n := ⟨by kernel_rfl, by kernel_rfl⟩
theorem aY13 (n : Nat) : sy2R 13 n := ⟨by kernel_rfl, by kernel_rfl⟩
theorem aZ13 : pu2R 13 = true := by kernel_rfl
theorem aW13 : sy3R 13 = true := by kernel_rfl
theorem aP14 : putR 14 = true := by kernel_rfl
theorem aS14 : synR 14 = true := by kernel_rfl
theorem aH14 : hanR 14 = true := by kernel_rfl
theorem aR14 (n : Nat) : recR 14 n := ⟨by kernel_rfl, by kernel_rfl⟩
theorem aY14 (n : Nat) : sy2R 14 n := ⟨by kernel_rfl, by kernel_rfl⟩
theorem aZ14 : pu2R 14 = true := by kernel_rfl
theorem aW14 : sy3R 14 = true := by kernel_rfl
end Go.Proofs
