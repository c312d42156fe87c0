/- The told package variable: what a law's condition gives; a world that meets it. -/
import Derived.Test.YtomljpdjfobeoaaDoorZ21
import Derived.JoinedOf
set_option linter.all false
set_option maxRecDepth 100000
namespace Go.Proofs.YtomljpdjfobeoaaDoor
open Go Go.Ev Go.ChangeShapes Go.WideShapes Go.ChangeAt Go.RowKit
theorem Tryd.own : ownKnob Tryd.prog.godebug = none := by kernel_rfl
theorem Tryd.laidOut : laidOutB Tryd.prog = true := by kernel_rfl
theorem Tryd.et : Tryd.prog.globalNamed "errors.errorType" = some 0 := by kernel_rfl
theorem Tryd.rt : (Tryd.prog.cutTypes.find? (·.1 == "internal/reflectlite.rtype")).map (·.2) = some 147 := by kernel_rfl
theorem Tryd.size : Tryd.prog.types.size = 227 := by kernel_rfl
theorem Tryd.oneRow : ((List.range 227).filter fun t => Tryd.prog.rowNamed t [101, 114, 114, 111, 114]) = [26] := by kernel_rfl
/-- what is told -/
def laid0 : List (String × DataW Unit) := [("errors.errorType", Rows.laid_errors_errorType)]
/-- the variable's one cell -/
theorem handle_of_laid {W : World} (h : laidMetH Tryd.prog laid0 W) : W.cell? ⟨0, 0, none⟩ = some (.iface 147 (.agg #[.pointer (some ⟨1, 26, none⟩)])) := by
  have h' : laidMet Tryd.prog [] W ∧ handlesMet Tryd.prog laid0 W := h
  obtain ⟨name, u, ty, e1, e2, e3, e4, e5⟩ := h'.2 _ (List.mem_singleton.2 rfl)
  have en : name = [101, 114, 114, 111, 114] := (Option.some.inj e1).symm
  subst en
  obtain rfl := Option.some.inj (Tryd.rt.symm.trans e2)
  have hm : ty ∈ (List.range 227).filter fun t => Tryd.prog.rowNamed t [101, 114, 114, 111, 114] := List.mem_filter.2 ⟨List.mem_range.2 (by rw [← Tryd.size]; exact e3), e4⟩
  rw [Tryd.oneRow] at hm
  obtain rfl := List.mem_singleton.1 hm
  have hh : typeHandle Tryd.prog 26 = .pointer (some ⟨1, 26, none⟩) := by kernel_rfl
  rw [hh] at e5
  simpa using World.var?_cell Tryd.et e5 0
theorem rom_of_laid {W : World} (h : laidMetH Tryd.prog laid0 W) : ∀ g v, (g, v) ∈ romOf → W.cell? ⟨g, 0, none⟩ = some v := by
  intro g v hm
  have hm : (g, v) ∈ [(0, Value.iface 147 (.agg #[.pointer (some ⟨1, 26, none⟩)]))] := hm
  cases List.mem_singleton.1 hm
  exact handle_of_laid h
/-- a world that meets it -/
noncomputable def laidWorld (os : Os) : World :=
  let w0 := World.holding Tryd.prog os ⟨#[], #[], []⟩
  { w0 with heap := w0.heap.modify 0 fun
      | .cells _ t frozen => .cells #[.iface 147 (.agg #[.pointer (some ⟨1, 26, none⟩)])] t frozen
      | o => o }
theorem laidWorld_met (os : Os) (args : Array Value) : laidMetH Tryd.prog laid0 ((laidWorld os).forCall (fun _ _ => 0) ⟨#[], args, []⟩).memory :=
  laidMetH_of_parts (laidMet_nil _ _) (by kernel_rfl)
end Go.Proofs.YtomljpdjfobeoaaDoor
