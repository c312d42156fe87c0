/- What is given to a law: opened into the evaluator's memory. -/
import Derived.Test.YtkhaejbkdgbjcaaGreatDoorZ14
import Derived.Deep.Slices
set_option linter.all false
namespace Go.Ev
open Go.ChangeShapes Go.WideShapes Go.RowKit
variable {P : Program}
section
variable {HH : Type} {enc : TypeId × Value → HH} {w : World} {base : Nat} {sp : Nat → Bool} {held : Bool} {fuel : Nat} {t : TypeId} {cs : List Value} {x : DataW HH × List MemPlace}
end
noncomputable def noHeap : Heap := .mk .z .lf
theorem noHeap_rel (w : World) (hr : ∀ g v, (g, v) ∈ romOf → w.cell? ⟨g, 0, none⟩ = some v) : WRel P (fun _ => none) noHeap w :=
  ⟨⟨fun k a h => (by cases h), fun k b h => (by cases k <;> cases h), fun k b a h => (by cases k <;> cases h), fun j k c d x y _ h => (by cases j <;> cases h), fun k a h => (by cases h)⟩, fun g v hm => ⟨hr g v hm, fun ⟨j, c, y, hj, _⟩ => by cases j <;> cases hj⟩⟩
theorem noHeap_ro : ∀ k b, noHeap.get k = some b → ¬ b.mayWrite := fun k b h => by cases k <;> cases h
end Go.Ev
