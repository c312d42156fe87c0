/- part. -/
import Derived.Test.YtglpihajimhekaaGreatDoorZ0
import GoSem.Core.World
namespace Go.Ev
def romOf : List (Nat × Value) := [(0, .iface 251 (.agg #[.pointer (some ⟨2, 68, none⟩)]))]
end Go.Ev
