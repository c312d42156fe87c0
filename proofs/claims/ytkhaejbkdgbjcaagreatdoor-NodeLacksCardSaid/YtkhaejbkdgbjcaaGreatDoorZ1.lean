/- What some package variables hold: told by a law's own conditions. Here: the type 'error', as the package errors holds it. -/
import Derived.Test.YtkhaejbkdgbjcaaGreatDoorZ0
import GoSem.Core.World
namespace Go.Ev
/-- the block of a package variable, what is in its first cell -/
def romOf : List (Nat × Value) := [(0, .iface 242 (.agg #[.pointer (some ⟨2, 72, none⟩)]))]
end Go.Ev
