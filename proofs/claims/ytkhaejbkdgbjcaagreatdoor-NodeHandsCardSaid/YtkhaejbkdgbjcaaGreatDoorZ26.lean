/- NodeHands: reckoned. -/
import Derived.Test.YtkhaejbkdgbjcaaGreatDoorZ25
import Derived.KernelRfl
set_option linter.all false
set_option maxRecDepth 100000
namespace Go.Proofs
open Go Go.Ev
theorem aP9 : putR 9 = true := by kernel_rfl
theorem aS9 : synR 9 = true := by kernel_rfl
theorem aH9 : hanR 9 = true := by kernel_rfl
theorem aR9 (n : Nat) : recR 9 n := ⟨by kernel_rfl, by kernel_rfl⟩
theorem aY9 (n : Nat) : sy2R 9 n := ⟨by kernel_rfl, by kernel_rfl⟩
theorem aZ9 : pu2R 9 = true := by kernel_rfl
theorem aW9 : sy3R 9 = true := by kernel_rfl
theorem aP10 : putR 10 = true := by kernel_rfl
theorem aS10 : synR 10 = true := by kernel_rfl
theorem aH10 : hanR 10 = true := by kernel_rfl
theorem aR10 (n : Nat) : recR 10 n := ⟨by kernel_rfl, by kernel_rfl⟩
theorem aY10 (n : Nat) : sy2R 10 n := ⟨by kernel_rfl, by kernel_rfl⟩
theorem aZ10 : pu2R 10 = true := by kernel_rfl
theorem aW10 : sy3R 10 = true := by kernel_rfl
theorem aP11 : putR 11 = true := by kernel_rfl
theorem aS11 : synR 11 = true := by kernel_rfl
theorem aH11 : hanR 11 = true := by kernel_rfl
theorem aR11 (n : Nat) : recR 11 n := ⟨by kernel_rfl, by kernel_rfl⟩
theorem aY11 (n : Nat) : sy2R 11 n := ⟨by kernel_rfl, by kernel_rfl⟩
theorem aZ11 : pu2R 11 = true := by kernel_rfl
theorem aW11 : sy3R 11 = true := by kernel_rfl
end Go.Proofs
