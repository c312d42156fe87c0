/- NodeHands: reckoned. -/
import Derived.Test.YtkhaejbkdgbjcaaGreatDoorZ27
import Derived.KernelRfl
set_option linter.all false
set_option maxRecDepth 100000
namespace Go.Proofs
open Go Go.Ev
theorem aP15 : putR 15 = true := by kernel_rfl
theorem aS15 : synR 15 = true := by kernel_rfl
theorem aH15 : hanR 15 = true := by kernel_rfl
theorem aR15 (n : Nat) : recR 15 n := ⟨by kernel_rfl, by kernel_rfl⟩
theorem aY15 (n : Nat) : sy2R 15 n := ⟨by kernel_rfl, by kernel_rfl⟩
theorem aZ15 : pu2R 15 = true := by kernel_rfl
theorem aW15 : sy3R 15 = true := by kernel_rfl
theorem aP16 : putR 16 = true := by kernel_rfl
theorem aS16 : synR 16 = true := by kernel_rfl
theorem aH16 : hanR 16 = true := by kernel_rfl
theorem aR16 (n : Nat) : recR 16 n := ⟨by kernel_rfl, by kernel_rfl⟩
theorem aY16 (n : Nat) : sy2R 16 n := ⟨by kernel_rfl, by kernel_rfl⟩
theorem aZ16 : pu2R 16 = true := by kernel_rfl
theorem aW16 : sy3R 16 = true := by kernel_rfl
theorem aP17 : putR 17 = true := by kernel_rfl
theorem aS17 : synR 17 = true := by kernel_rfl
theorem aH17 : hanR 17 = true := by kernel_rfl
theorem aR17 (n : Nat) : recR 17 n := ⟨by kernel_rfl, by kernel_rfl⟩
theorem aY17 (n : Nat) : sy2R 17 n := ⟨by kernel_rfl, by kernel_rfl⟩
theorem aZ17 : pu2R 17 = true := by kernel_rfl
theorem aW17 : sy3R 17 = true := by kernel_rfl
end Go.Proofs
