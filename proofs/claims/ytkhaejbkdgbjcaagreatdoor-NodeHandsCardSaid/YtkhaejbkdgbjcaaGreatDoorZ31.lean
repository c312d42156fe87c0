/- NodeHands: reckoned. -/
import Derived.Test.YtkhaejbkdgbjcaaGreatDoorZ30
import Derived.KernelRfl
set_option linter.all false
set_option maxRecDepth 100000
namespace Go.Proofs
open Go Go.Ev
theorem aP24 : putR 24 = true := by kernel_rfl
theorem aS24 : synR 24 = true := by kernel_rfl
theorem aH24 : hanR 24 = true := by kernel_rfl
theorem aR24 (n : Nat) : recR 24 n := ⟨by kernel_rfl, by kernel_rfl⟩
theorem aY24 (n : Nat) : sy2R 24 n := ⟨by kernel_rfl, by kernel_rfl⟩
theorem aZ24 : pu2R 24 = true := by kernel_rfl
theorem aW24 : sy3R 24 = true := by kernel_rfl
theorem aP25 : putR 25 = true := by kernel_rfl
theorem aS25 : synR 25 = true := by kernel_rfl
theorem aH25 : hanR 25 = true := by kernel_rfl
theorem aR25 (n : Nat) : recR 25 n := ⟨by kernel_rfl, by kernel_rfl⟩
theorem aY25 (n : Nat) : sy2R 25 n := ⟨by kernel_rfl, by kernel_rfl⟩
theorem aZ25 : pu2R 25 = true := by kernel_rfl
theorem aW25 : sy3R 25 = true := by kernel_rfl
theorem aP26 : putR 26 = true := by kernel_rfl
theorem aS26 : synR 26 = true := by kernel_rfl
theorem aH26 : hanR 26 = true := by kernel_rfl
theorem aR26 (n : Nat) : recR 26 n := ⟨by kernel_rfl, by kernel_rfl⟩
theorem aY26 (n : Nat) : sy2R 26 n := ⟨by kernel_rfl, by kernel_rfl⟩
theorem aZ26 : pu2R 26 = true := by kernel_rfl
theorem aW26 : sy3R 26 = true := by kernel_rfl
end Go.Proofs
