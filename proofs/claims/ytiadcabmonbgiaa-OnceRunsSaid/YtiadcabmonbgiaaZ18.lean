/- Rows of arguments, opened: what all laws of this seat share. -/
import Derived.Test.YtiadcabmonbgiaaZ17
import Derived.Test.YtiadcabmonbgiaaProg
import Derived.Test.YtiadcabmonbgiaaRows
set_option linter.all false
set_option maxRecDepth 100000
namespace Go.Ev
open Go.ChangeShapes Go.WideShapes Go.RowKit
variable {P : Program}
section
variable {HH : Type} {enc : TypeId × Value → HH} {W : World} {r : Reach} {base b0 : Nat} {sp : Nat → Bool} {held : Bool} {t : TypeId} {v : Value} {d : DataW HH} {p : List MemPlace}
theorem bool_of (ht : P.underlying t = some .bool) (h : Value.okWide P W r b0 t v) : ∃ b, v = .bool b := by
  simp only [Value.okWide, ht, Cell.okWide] at h
  cases v <;> simp_all [Cell.ok]
theorem open_cell {k : PK} (hk : k.ty P t) (hval : Value.okWide P W r b0 t v) (h : DataW.Trod enc P W base sp held t v d p) : ∃ av, (∀ φ, VRel P φ av v) ∧ KOf k av := by
  obtain ⟨fuel, hf⟩ := h
  obtain ⟨u, av, hcs, hv, ho, hko⟩ := open_prim hk hf
  have hv1 : v.cells.toList = [v] := by
    cases k with
    | str => obtain ⟨s, rfl⟩ := okWide_string hk hval; rfl
    | int k => obtain ⟨n, rfl⟩ := okWide_int hk hval; rfl
    | bool =>
      obtain ⟨b, rfl⟩ := bool_of hk hval
      rfl
  rw [hv1] at hcs
  cases hcs
  exact ⟨av, hv, hko⟩
theorem open_agg {ks : List PK} (hf : Flat P t ks) (hval : Value.okWide P W r b0 t v) (h : DataW.Trod enc P W base sp held t v d p) : ∃ row, (∀ φ, VRel P φ (.agg row) v) ∧ RowOf ks row := by
  obtain ⟨fuel, hff⟩ := h
  obtain ⟨row, h1, h2, h3, h4⟩ := open_flat hf hff
  obtain ⟨fs, ht, _⟩ := hf.st
  simp only [Value.okWide, ht] at hval
  obtain ⟨cs, rfl, _⟩ := hval
  exact ⟨row, fun φ => .agg _ _ (h1 φ) h3, h4⟩
end
end Go.Ev
namespace Go.Proofs
open Go Go.Ev
theorem row2 {k1 k2 : PK} {row : List AV} (h : RowOf [k1, k2] row) : ∃ a b, row = [a, b] ∧ KOf k1 a ∧ KOf k2 b := by
  obtain ⟨hl, h⟩ := h
  match row, hl with
  | [a, b], _ => exact ⟨a, b, rfl, h 0 _ _ rfl rfl, h 1 _ _ rfl rfl⟩
theorem row5 {k1 k2 k3 k4 k5 : PK} {row : List AV} (h : RowOf [k1, k2, k3, k4, k5] row) : ∃ a b c d e, row = [a, b, c, d, e] ∧ KOf k1 a ∧ KOf k2 b ∧ KOf k3 c ∧ KOf k4 d ∧ KOf k5 e := by
  obtain ⟨hl, h⟩ := h
  match row, hl with
  | [a, b, c, d, e], _ => exact ⟨a, b, c, d, e, rfl, h 0 _ _ rfl rfl, h 1 _ _ rfl rfl, h 2 _ _ rfl rfl, h 3 _ _ rfl rfl, h 4 _ _ rfl rfl⟩
end Go.Proofs
namespace Go.Ev
open Go.ChangeShapes Go.WideShapes Go.RowKit
variable {P : Program} {HH : Type} {enc : TypeId × Value → HH} {w : World} {base : Nat} {sp : Nat → Bool} {held : Bool} {n : Nat} {e : TypeId} {cs : List Value} {x : DataW HH × List MemPlace}
theorem open_one {k : PK} (hk : k.ty P e) (h : DataW.trod enc P w base sp held n e cs = some x) : ∃ row, (∀ φ, VRels P φ row cs) ∧ cs.length = [k].length ∧ (∀ v ∈ cs, v.oneCell' = true) ∧ RowOf [k] row := by
  obtain ⟨v, av, rfl, hv, ho, hk⟩ := open_prim hk h
  refine ⟨[av], fun φ => .cons _ _ _ _ (hv φ) .nil, rfl, by simpa using ho, rfl, ?_⟩
  intro i k' v' h1 h2
  match i, h1, h2 with
  | 0, h1, h2 => cases h1; cases h2; exact hk
end Go.Ev
namespace Go.Proofs
open Go Go.Ev
theorem row1 {k : PK} {row : List AV} (h : RowOf [k] row) : ∃ a, row = [a] ∧ KOf k a := by
  obtain ⟨hl, h⟩ := h
  match row, hl with
  | [a], _ => exact ⟨a, rfl, h 0 _ _ rfl rfl⟩
theorem bools_of : ∀ {rows : List (List AV)}, (∀ r ∈ rows, RowOf [.bool] r) → ∃ l : List Bool, rows = l.map fun d => [AV.bool d]
  | [], _ => ⟨[], rfl⟩
  | r :: rows, h => by
    obtain ⟨a, rfl, ha⟩ := row1 (h r (by simp))
    obtain ⟨l, rfl⟩ := bools_of (rows := rows) fun x hx => h x (by simp [hx])
    cases ha
    rename_i b
    exact ⟨b :: l, rfl⟩
end Go.Proofs
namespace Go.Proofs.Ytiadcabmonbgiaa
open Go Go.Ev Go.ChangeShapes Go.WideShapes Go.ChangeAt Go.RowKit
theorem Try.own : ownKnob Try.prog.godebug = none := by kernel_rfl
theorem Try.laidOut : laidOutB Try.prog = true := by kernel_rfl
end Go.Proofs.Ytiadcabmonbgiaa
