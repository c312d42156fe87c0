/- part. -/
import Derived.Test.YtglpihajimhekaaGreatDoorZ23
set_option linter.all false
set_option maxRecDepth 100000
namespace Go.Proofs
open Go Go.Ev
theorem read_bat : (allN 20 fun i => runB 43 [.str (batT (i % 3) (i / 3 + 1) (65 + i))] [] [wrB (65 + i)] [K.z.i.o.i] (.tup [.agg (reqL ((i % 3 : Nat) : Int) ((i / 3 + 1 : Nat) : Int) (batL (.slice .z 0 3 3 false 3))), .nili])) = true := by kernel_rfl
end Go.Proofs
