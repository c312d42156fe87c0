/- NodeHands: reckoned. -/
import Derived.Test.YtkhaejbkdgbjcaaGreatDoorZ24
import Derived.KernelRfl
set_option linter.all false
set_option maxRecDepth 100000
namespace Go.Proofs
open Go Go.Ev
theorem aP6 : putR 6 = true := by kernel_rfl
theorem aS6 : synR 6 = true := by kernel_rfl
theorem aH6 : hanR 6 = true := by kernel_rfl
theorem aR6 (n : Nat) : recR 6 n := ⟨by kernel_rfl, by kernel_rfl⟩
theorem aY6 (n : Nat) : sy2R 6 n := ⟨by kernel_rfl, by kernel_rfl⟩
theorem aZ6 : pu2R 6 = true := by kernel_rfl
theorem aW6 : sy3R 6 = true := by kernel_rfl
theorem aP7 : putR 7 = true := by kernel_rfl
theorem aS7 : synR 7 = true := by kernel_rfl
theorem aH7 : hanR 7 = true := by kernel_rfl
theorem aR7 (n : Nat) : recR 7 n := ⟨by kernel_rfl, by kernel_rfl⟩
theorem aY7 (n : Nat) : sy2R 7 n := ⟨by kernel_rfl, by kernel_rfl⟩
theorem aZ7 : pu2R 7 = true := by kernel_rfl
theorem aW7 : sy3R 7 = true := by kernel_rfl
theorem aP8 : putR 8 = true := by kernel_rfl
theorem aS8 : synR 8 = true := by kernel_rfl
theorem aH8 : hanR 8 = true := by kernel_rfl
theorem aR8 (n : Nat) : recR 8 n := ⟨by kernel_rfl, by kernel_rfl⟩
theorem aY8 (n : Nat) : sy2R 8 n := ⟨by kernel_rfl, by kernel_rfl⟩
theorem aZ8 : pu2R 8 = true := by kernel_rfl
theorem aW8 : sy3R 8 = true := by kernel_rfl
end Go.Proofs
