/- NodeHands: reckoned. -/
import Derived.Test.YtkhaejbkdgbjcaaGreatDoorZ29
import Derived.KernelRfl
set_option linter.all false
set_option maxRecDepth 100000
namespace Go.Proofs
open Go Go.Ev
theorem aP21 : putR 21 = true := by kernel_rfl
theorem aS21 : synR 21 = true := by kernel_rfl
theorem aH21 : hanR 21 = true := by kernel_rfl
theorem aR21 (n : Nat) : recR 21 n := ⟨by kernel_rfl, by kernel_rfl⟩
theorem aY21 (n : Nat) : sy2R 21 n := ⟨by kernel_rfl, by kernel_rfl⟩
theorem aZ21 : pu2R 21 = true := by kernel_rfl
theorem aW21 : sy3R 21 = true := by kernel_rfl
theorem aP22 : putR 22 = true := by kernel_rfl
theorem aS22 : synR 22 = true := by kernel_rfl
theorem aH22 : hanR 22 = true := by kernel_rfl
theorem aR22 (n : Nat) : recR 22 n := ⟨by kernel_rfl, by kernel_rfl⟩
theorem aY22 (n : Nat) : sy2R 22 n := ⟨by kernel_rfl, by kernel_rfl⟩
theorem aZ22 : pu2R 22 = true := by kernel_rfl
theorem aW22 : sy3R 22 = true := by kernel_rfl
theorem aP23 : putR 23 = true := by kernel_rfl
theorem aS23 : synR 23 = true := by kernel_rfl
theorem aH23 : hanR 23 = true := by kernel_rfl
theorem aR23 (n : Nat) : recR 23 n := ⟨by kernel_rfl, by kernel_rfl⟩
theorem aY23 (n : Nat) : sy2R 23 n := ⟨by kernel_rfl, by kernel_rfl⟩
theorem aZ23 : pu2R 23 = true := by kernel_rfl
theorem aW23 : sy3R 23 = true := by kernel_rfl
end Go.Proofs
