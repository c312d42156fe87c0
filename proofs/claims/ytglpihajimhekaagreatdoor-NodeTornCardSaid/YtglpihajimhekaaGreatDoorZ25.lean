/- part. -/
import Derived.Test.YtglpihajimhekaaGreatDoorZ23
set_option linter.all false
set_option maxRecDepth 100000
namespace Go.Proofs
open Go Go.Ev
theorem read_put0 : (allN 20 fun i => isR (EK 43 [.str (recT (i % 3) (i / 3 + 1) 97 (65 + i))] hp0) (.tup [.agg (recL (i % 3) (i / 3 + 1) 97 (65 + i)), .nili])) = true := by kernel_rfl
theorem rec_put0 : (allN 20 fun i => isR (EK 54 [.agg (recL (i % 3) (i / 3 + 1) 97 (65 + i))] hp0) (.str (recT (i % 3) (i / 3 + 1) 97 (65 + i)))) = true := by kernel_rfl
theorem read_put1 : (allN 20 fun i => isR (EK 43 [.str (recT (i % 3) (i / 3 + 1) 98 (65 + i))] hp0) (.tup [.agg (recL (i % 3) (i / 3 + 1) 98 (65 + i)), .nili])) = true := by kernel_rfl
theorem rec_put1 : (allN 20 fun i => isR (EK 54 [.agg (recL (i % 3) (i / 3 + 1) 98 (65 + i))] hp0) (.str (recT (i % 3) (i / 3 + 1) 98 (65 + i)))) = true := by kernel_rfl
theorem read_put2 : (allN 20 fun i => isR (EK 43 [.str (recT (i % 3) (i / 3 + 1) 99 (65 + i))] hp0) (.tup [.agg (recL (i % 3) (i / 3 + 1) 99 (65 + i)), .nili])) = true := by kernel_rfl
theorem rec_put2 : (allN 20 fun i => isR (EK 54 [.agg (recL (i % 3) (i / 3 + 1) 99 (65 + i))] hp0) (.str (recT (i % 3) (i / 3 + 1) 99 (65 + i)))) = true := by kernel_rfl
theorem read_put3 : (allN 20 fun i => isR (EK 43 [.str (recT (i % 3) (i / 3 + 1) 100 (65 + i))] hp0) (.tup [.agg (recL (i % 3) (i / 3 + 1) 100 (65 + i)), .nili])) = true := by kernel_rfl
theorem rec_put3 : (allN 20 fun i => isR (EK 54 [.agg (recL (i % 3) (i / 3 + 1) 100 (65 + i))] hp0) (.str (recT (i % 3) (i / 3 + 1) 100 (65 + i)))) = true := by kernel_rfl
theorem read_put4 : (allN 20 fun i => isR (EK 43 [.str (recT (i % 3) (i / 3 + 1) 101 (65 + i))] hp0) (.tup [.agg (recL (i % 3) (i / 3 + 1) 101 (65 + i)), .nili])) = true := by kernel_rfl
theorem rec_put4 : (allN 20 fun i => isR (EK 54 [.agg (recL (i % 3) (i / 3 + 1) 101 (65 + i))] hp0) (.str (recT (i % 3) (i / 3 + 1) 101 (65 + i)))) = true := by kernel_rfl
theorem read_put {i k : Nat} (hi : i < 20) (hk : k < 5) : isR (EK 43 [.str (recT (i % 3) (i / 3 + 1) (97 + k) (65 + i))] hp0) (.tup [.agg (recL (i % 3) (i / 3 + 1) (97 + k) (65 + i)), .nili]) = true := by
 rcases (show k = 0 ∨ k = 1 ∨ k = 2 ∨ k = 3 ∨ k = 4 by omega) with rfl | rfl | rfl | rfl | rfl
 ·exact allN_of read_put0 i hi
 ·exact allN_of read_put1 i hi
 ·exact allN_of read_put2 i hi
 ·exact allN_of read_put3 i hi
 ·exact allN_of read_put4 i hi
theorem rec_put {i k : Nat} (hi : i < 20) (hk : k < 5) : isR (EK 54 [.agg (recL (i % 3) (i / 3 + 1) (97 + k) (65 + i))] hp0) (.str (recT (i % 3) (i / 3 + 1) (97 + k) (65 + i))) = true := by
 rcases (show k = 0 ∨ k = 1 ∨ k = 2 ∨ k = 3 ∨ k = 4 by omega) with rfl | rfl | rfl | rfl | rfl
 ·exact allN_of rec_put0 i hi
 ·exact allN_of rec_put1 i hi
 ·exact allN_of rec_put2 i hi
 ·exact allN_of rec_put3 i hi
 ·exact allN_of rec_put4 i hi
end Go.Proofs
