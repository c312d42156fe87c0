/- What some package variables hold: told by a law's own conditions. Here: the type 'error', as the package errors holds it. -/
import Derived.Test.YtilfojgiinaklaaGreatDoorZ0
import GoSem.Core.World
namespace Go.Ev
/-- the block of a package variable, what is in its first cell -/
def romOf : List (Nat × Value) := [(0, .iface 193 (.agg #[.pointer (some ⟨1, 35, none⟩)]))]
end Go.Ev
