/- What is given to the laws of cuts: opened; the package variable that is told. -/
import Derived.Test.YtomljpdjfobeoaaDoorZ17
import Derived.Test.YtomljpdjfobeoaaDoorProg
import Derived.Test.YtomljpdjfobeoaaDoorRows
import Derived.Test.YtomljpdjfobeoaaDoorTie
import Derived.ChangeSame
import Derived.ChangeVars
import Derived.RowKit
import Derived.LaidLaws
import Derived.LaidHandle
import Derived.SevenTiedAt
set_option linter.all false
set_option maxRecDepth 100000
namespace Go.Ev
open Go.ChangeShapes Go.WideShapes Go.RowKit
variable {P : Program} {HH : Type} {enc : TypeId × Value → HH} {W : World}
theorem bool_of {r : Reach} {b0 : Nat} {t : TypeId} {v : Value} (ht : P.underlying t = some .bool) (h : Value.okWide P W r b0 t v) : ∃ b, v = .bool b := by
  simp only [Value.okWide, ht, Cell.okWide] at h
  cases v <;> simp_all [Cell.ok]
theorem open_cell {r : Reach} {base b0 : Nat} {sp : Nat → Bool} {held : Bool} {t : TypeId} {v : Value} {d : DataW HH} {p : List MemPlace} {k : PK} (hk : k.ty P t) (hval : Value.okWide P W r b0 t v) (h : DataW.Trod enc P W base sp held t v d p) : ∃ av, (∀ φ, VRel P φ av v) ∧ KOf k av := by
  obtain ⟨fuel, hf⟩ := h
  obtain ⟨u, av, hcs, hv, ho, hko⟩ := open_prim hk hf
  have hv1 : v.cells.toList = [v] := by
    cases k with
    | str => obtain ⟨s, rfl⟩ := okWide_string hk hval; rfl
    | int k => obtain ⟨n, rfl⟩ := okWide_int hk hval; rfl
    | bool =>
      obtain ⟨b, rfl⟩ := bool_of hk hval
      rfl
  rw [hv1] at hcs
  cases hcs
  exact ⟨av, hv, hko⟩
theorem Opens.imp {e : TypeId} {n : Nat} {RR SS : Heap → List AV → Prop} (h : Opens P enc W e n RR) (hm : ∀ (H : Heap) (row : List AV) (l : List Blk), SS H row → SS (H.ext l) row) (hi : ∀ H row, RR H row → SS H row) : Opens P enc W e n SS := by
  refine ⟨h.cells, hm, fun fuel cs x hx h0 φ H hw hro => ?_⟩
  obtain ⟨φ', l, row, h1, h2, h3, h4, h5, h6, h7⟩ := h.run fuel cs x hx h0 φ H hw hro
  exact ⟨φ', l, row, h1, h2, h3, h4, h5, h6, hi _ _ h7⟩
theorem KOf.int_of {k : IntKind} {v : AV} (h : KOf (.int k) v) : ∃ n, v = .int k n := by cases h; exact ⟨_, rfl⟩
theorem KOf.str_of {v : AV} (h : KOf .str v) : ∃ l, v = .str l := by cases h; exact ⟨_, rfl⟩
theorem KOf.bool_of {v : AV} (h : KOf .bool v) : ∃ b, v = .bool b := by cases h; exact ⟨_, rfl⟩
end Go.Ev
namespace Go.Proofs
open Go Go.Ev Go.ChangeShapes Go.WideShapes Go.RowKit
variable {HH : Type} {enc : TypeId × Value → HH} {W : World}
theorem rows_of {α : Type} {f : α → List AV} : ∀ {xs : List (List AV)}, (∀ r ∈ xs, ∃ q : α, r = f q) → ∃ l : List α, xs = l.map f
  | [], _ => ⟨[], rfl⟩
  | x :: xs, h => by
    obtain ⟨q, rfl⟩ := h x (by simp)
    obtain ⟨l, rfl⟩ := rows_of (xs := xs) fun r hr => h r (by simp [hr])
    exact ⟨q :: l, rfl⟩
theorem opens_span : Opens Tryd.prog enc W 30 2 fun _ row => ∃ a b : List Nat, row = [.str a, .str b] := by
  refine (Opens.struct (P := Tryd.prog) (enc := enc) (W := W) (m := 2) Tryd.underlying30 (by kernel_rfl) (by exact OpF.cons _ _ _ 1 1 _ _ (by rfl) (by exact Opens.prim _ _ _ (k := .str) Tryd.underlying9 (by kernel_rfl)) (by exact OpF.cons _ _ _ 1 0 _ _ (by rfl) (by exact Opens.prim _ _ _ (k := .str) Tryd.underlying9 (by kernel_rfl)) (by exact OpF.nil _)))).imp (fun H row L h => h) ?_
  rintro H _ ⟨_, _, rfl, ⟨_, rfl, h1⟩, _, _, rfl, ⟨_, rfl, h2⟩, rfl⟩
  obtain ⟨a, rfl⟩ := h1.str_of
  obtain ⟨b, rfl⟩ := h2.str_of
  exact ⟨a, b, rfl⟩
end Go.Proofs
