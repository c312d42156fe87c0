/- NodeHands: reckoned. -/
import Derived.Test.YtkhaejbkdgbjcaaGreatDoorZ23
import Derived.KernelRfl
set_option linter.all false
set_option maxRecDepth 100000
namespace Go.Proofs
open Go Go.Ev
theorem aP3 : putR 3 = true := by kernel_rfl
theorem aS3 : synR 3 = true := by kernel_rfl
theorem aH3 : hanR 3 = true := by kernel_rfl
theorem aR3 (n : Nat) : recR 3 n := ⟨by kernel_rfl, by kernel_rfl⟩
theorem aY3 (n : Nat) : sy2R 3 n := ⟨by kernel_rfl, by kernel_rfl⟩
theorem aZ3 : pu2R 3 = true := by kernel_rfl
theorem aW3 : sy3R 3 = true := by kernel_rfl
theorem aP4 : putR 4 = true := by kernel_rfl
theorem aS4 : synR 4 = true := by kernel_rfl
theorem aH4 : hanR 4 = true := by kernel_rfl
theorem aR4 (n : Nat) : recR 4 n := ⟨by kernel_rfl, by kernel_rfl⟩
theorem aY4 (n : Nat) : sy2R 4 n := ⟨by kernel_rfl, by kernel_rfl⟩
theorem aZ4 : pu2R 4 = true := by kernel_rfl
theorem aW4 : sy3R 4 = true := by kernel_rfl
theorem aP5 : putR 5 = true := by kernel_rfl
theorem aS5 : synR 5 = true := by kernel_rfl
theorem aH5 : hanR 5 = true := by kernel_rfl
theorem aR5 (n : Nat) : recR 5 n := ⟨by kernel_rfl, by kernel_rfl⟩
theorem aY5 (n : Nat) : sy2R 5 n := ⟨by kernel_rfl, by kernel_rfl⟩
theorem aZ5 : pu2R 5 = true := by kernel_rfl
theorem aW5 : sy3R 5 = true := by kernel_rfl
end Go.Proofs
