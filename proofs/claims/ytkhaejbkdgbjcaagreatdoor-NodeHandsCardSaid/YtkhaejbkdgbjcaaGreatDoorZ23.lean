/- NodeHands: reckoned. -/
import Derived.Test.YtkhaejbkdgbjcaaGreatDoorZ22
import Derived.KernelRfl
set_option linter.all false
set_option maxRecDepth 100000
namespace Go.Proofs
open Go Go.Ev
theorem aP0 : putR 0 = true := by kernel_rfl
theorem aS0 : synR 0 = true := by kernel_rfl
theorem aH0 : hanR 0 = true := by kernel_rfl
theorem aR0 (n : Nat) : recR 0 n := ⟨by kernel_rfl, by kernel_rfl⟩
theorem aY0 (n : Nat) : sy2R 0 n := ⟨by kernel_rfl, by kernel_rfl⟩
theorem aZ0 : pu2R 0 = true := by kernel_rfl
theorem aW0 : sy3R 0 = true := by kernel_rfl
theorem aP1 : putR 1 = true := by kernel_rfl
theorem aS1 : synR 1 = true := by kernel_rfl
theorem aH1 : hanR 1 = true := by kernel_rfl
theorem aR1 (n : Nat) : recR 1 n := ⟨by kernel_rfl, by kernel_rfl⟩
theorem aY1 (n : Nat) : sy2R 1 n := ⟨by kernel_rfl, by kernel_rfl⟩
theorem aZ1 : pu2R 1 = true := by kernel_rfl
theorem aW1 : sy3R 1 = true := by kernel_rfl
theorem aP2 : putR 2 = true := by kernel_rfl
theorem aS2 : synR 2 = true := by kernel_rfl
theorem aH2 : hanR 2 = true := by kernel_rfl
theorem aR2 (n : Nat) : recR 2 n := ⟨by kernel_rfl, by kernel_rfl⟩
theorem aY2 (n : Nat) : sy2R 2 n := ⟨by kernel_rfl, by kernel_rfl⟩
theorem aZ2 : pu2R 2 = true := by kernel_rfl
theorem aW2 : sy3R 2 = true := by kernel_rfl
end Go.Proofs
