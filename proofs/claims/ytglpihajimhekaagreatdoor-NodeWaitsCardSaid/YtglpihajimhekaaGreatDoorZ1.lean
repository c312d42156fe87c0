/- What some package variables hold: told by a law's own conditions. Here: the type 'error', as the package errors holds it. -/
import Derived.Test.YtglpihajimhekaaGreatDoorZ0
import GoSem.Core.World
namespace Go.Ev
/-- the block of a package variable, what is in its first cell -/
def romOf : List (Nat × Value) := [(0, .iface 251 (.agg #[.pointer (some ⟨2, 68, none⟩)]))]
end Go.Ev
