/- NodeHands: reckoned. -/
import Derived.Test.YtkhaejbkdgbjcaaGreatDoorZ28
import Derived.KernelRfl
set_option linter.all false
set_option maxRecDepth 100000
namespace Go.Proofs
open Go Go.Ev
theorem aP18 : putR 18 = true := by kernel_rfl
theorem aS18 : synR 18 = true := by kernel_rfl
theorem aH18 : hanR 18 = true := by kernel_rfl
theorem aR18 (n : Nat) : recR 18 n := ⟨by kernel_rfl, by kernel_rfl⟩
theorem aY18 (n : Nat) : sy2R 18 n := ⟨by kernel_rfl, by kernel_rfl⟩
theorem aZ18 : pu2R 18 = true := by kernel_rfl
theorem aW18 : sy3R 18 = true := by kernel_rfl
theorem aP19 : putR 19 = true := by kernel_rfl
theorem aS19 : synR 19 = true := by kernel_rfl
theorem aH19 : hanR 19 = true := by kernel_rfl
theorem aR19 (n : Nat) : recR 19 n := ⟨by kernel_rfl, by kernel_rfl⟩
theorem aY19 (n : Nat) : sy2R 19 n := ⟨by kernel_rfl, by kernel_rfl⟩
theorem aZ19 : pu2R 19 = true := by kernel_rfl
theorem aW19 : sy3R 19 = true := by kernel_rfl
theorem aP20 : putR 20 = true := by kernel_rfl
theorem aS20 : synR 20 = true := by kernel_rfl
theorem aH20 : hanR 20 = true := by kernel_rfl
theorem aR20 (n : Nat) : recR 20 n := ⟨by kernel_rfl, by kernel_rfl⟩
theorem aY20 (n : Nat) : sy2R 20 n := ⟨by kernel_rfl, by kernel_rfl⟩
theorem aZ20 : pu2R 20 = true := by kernel_rfl
theorem aW20 : sy3R 20 = true := by kernel_rfl
end Go.Proofs
