/- What is given to the law: opened. -/
import Derived.Test.YtaoigphdghmacaaGreatDoorZ20
import Derived.Test.YtaoigphdghmacaaGreatDoorProg
import Derived.Test.YtaoigphdghmacaaGreatDoorRows
import Derived.Test.YtaoigphdghmacaaGreatDoorTie
import Derived.ChangeSame
import Derived.ChangeVars
import Derived.RowKit
import Derived.LaidLaws
import Derived.LaidHandle
import Derived.SevenTiedAt
set_option linter.all false
set_option maxRecDepth 100000
namespace Go.Ev
open Go.ChangeShapes Go.WideShapes Go.RowKit
variable {P : Program} {HH : Type} {enc : TypeId × Value → HH} {W : World}
theorem bool_of {r : Reach} {b0 : Nat} {t : TypeId} {v : Value} (ht : P.underlying t = some .bool) (h : Value.okWide P W r b0 t v) : ∃ b, v = .bool b := by
  simp only [Value.okWide, ht, Cell.okWide] at h
  cases v <;> simp_all [Cell.ok]
theorem open_cell {r : Reach} {base b0 : Nat} {sp : Nat → Bool} {held : Bool} {t : TypeId} {v : Value} {d : DataW HH} {p : List MemPlace} {k : PK} (hk : k.ty P t) (hval : Value.okWide P W r b0 t v) (h : DataW.Trod enc P W base sp held t v d p) : ∃ av, (∀ φ, VRel P φ av v) ∧ KOf k av := by
  obtain ⟨fuel, hf⟩ := h
  obtain ⟨u, av, hcs, hv, ho, hko⟩ := open_prim hk hf
  have hv1 : v.cells.toList = [v] := by
    cases k with
    | str => obtain ⟨s, rfl⟩ := okWide_string hk hval; rfl
    | int k => obtain ⟨n, rfl⟩ := okWide_int hk hval; rfl
    | bool =>
      obtain ⟨b, rfl⟩ := bool_of hk hval
      rfl
  rw [hv1] at hcs
  cases hcs
  exact ⟨av, hv, hko⟩
theorem Opens.imp {e : TypeId} {n : Nat} {RR SS : Heap → List AV → Prop} (h : Opens P enc W e n RR) (hm : ∀ (H : Heap) (row : List AV) (l : List Blk), SS H row → SS (H.ext l) row) (hi : ∀ H row, RR H row → SS H row) : Opens P enc W e n SS := by
  refine ⟨h.cells, hm, fun fuel cs x hx h0 φ H hw hro => ?_⟩
  obtain ⟨φ', l, row, h1, h2, h3, h4, h5, h6, h7⟩ := h.run fuel cs x hx h0 φ H hw hro
  exact ⟨φ', l, row, h1, h2, h3, h4, h5, h6, hi _ _ h7⟩
theorem KOf.str_of {v : AV} (h : KOf .str v) : ∃ l, v = .str l := by cases h; exact ⟨_, rfl⟩
theorem KOf.bool_of {v : AV} (h : KOf .bool v) : ∃ b, v = .bool b := by cases h; exact ⟨_, rfl⟩
end Go.Ev
