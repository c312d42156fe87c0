/- Clone and Insert at an empty slice. -/
import Derived.Test.YtiadcabmonbgiaaEvAE
set_option linter.all false
namespace Go.Ev
variable {P : Program} {H : Heap}
theorem clone_zero {f : FuncId} {esz bytes : Nat} {zero : List AV} (hf : CloFn P f esz bytes zero) {k : K} {off : Nat} {ex : Bool} {cap : Nat} :
    FnOk P f [.slice k off 0 esz ex cap] H fun v G => v = .slice H.nx 0 0 esz true 0 ∧ G = H.ext [.row true esz []] := by
  obtain ⟨fn, h1, h2, h3⟩ := hf.fn
  have hpos := hf.pos
  refine FnOk.of_WW h1 rfl h2 h3 E0 good_E0 ?_
  simp only [go_sem, cloCC, List.replicate_zero, Heap.key_zero, Nat.reduceAdd, Nat.reduceSub, Nat.reduceMul, Nat.reduceDiv, Nat.reduceMod, Nat.reduceEqDiff, Nat.reduceLeDiff, Nat.reduceLT, Int.reduceLT, Int.reduceLE, Int.reduceEq, reduceIte, reduceCtorEq]
theorem insert_zero {f : FuncId} {esz bytes : Nat} {zero : List AV} (hf : InsFn P f esz bytes zero) {kv k : K} {wr : Bool} {x : List AV} (hv : H.get kv = some (.row wr esz [x])) (hg : H.get k = some (.row true esz [])) (hb : 194 * bytes ≤ 281474976710656) :
    FnOk P f [.slice k 0 0 esz true 0, .int .i64 0, .slice kv 0 1 esz true 1] H fun v G => v = .slice H.nx 0 1 esz false 1 ∧ G = H.ext [.row true esz [x]] := by
  obtain ⟨fn, ov, rr, h1, h2, h3, h4, h5⟩ := hf.fn
  have hpos := hf.pos
  refine FnOk.assume fun hok => ?_
  have hgk := Heap.get_ext_old hok hg
  have hgv := Heap.get_ext_old hok hv
  refine FnOk.of_WW h1 rfl h2 h3 E0 good_E0 ?_
  simp only [go_sem, insCC, hgk, hgv, hb, Nat.zero_mod, Nat.zero_div, Nat.zero_le, Nat.reduceAdd, Nat.reduceSub, Nat.reduceMul, Nat.reduceDiv, Nat.reduceMod, Nat.reduceEqDiff, Nat.reduceLeDiff, Nat.reduceLT, Int.reduceLT, Int.reduceLE, Int.reduceEq, Int.reduceToNat, reduceIte, reduceCtorEq, Heap.key_zero]
end Go.Ev
