/- What is given to the law: opened. -/
import Derived.Test.YtilfojgiinaklaaGreatDoorZ19
import Derived.Test.YtilfojgiinaklaaGreatDoorProg
import Derived.Test.YtilfojgiinaklaaGreatDoorRows
import Derived.Test.YtilfojgiinaklaaGreatDoorTie
import Derived.ChangeSame
import Derived.ChangeVars
import Derived.RowKit
import Derived.LaidLaws
import Derived.LaidHandle
import Derived.SevenTiedAt
set_option linter.all false
set_option maxRecDepth 100000
namespace Go.Ev
open Go.ChangeShapes Go.WideShapes Go.RowKit
variable {P : Program} {HH : Type} {enc : TypeId × Value → HH} {W : World}
theorem Opens.imp {e : TypeId} {n : Nat} {RR SS : Heap → List AV → Prop} (h : Opens P enc W e n RR) (hm : ∀ (H : Heap) (row : List AV) (l : List Blk), SS H row → SS (H.ext l) row) (hi : ∀ H row, RR H row → SS H row) : Opens P enc W e n SS := by
  refine ⟨h.cells, hm, fun fuel cs x hx h0 φ H hw hro => ?_⟩
  obtain ⟨φ', l, row, h1, h2, h3, h4, h5, h6, h7⟩ := h.run fuel cs x hx h0 φ H hw hro
  exact ⟨φ', l, row, h1, h2, h3, h4, h5, h6, hi _ _ h7⟩
end Go.Ev
