/- Rows of arguments, opened: what all laws of this seat share. -/
import Derived.Test.YtiadcabmonbgiaaZ19
import Derived.Test.YtiadcabmonbgiaaProg
import Derived.Test.YtiadcabmonbgiaaRows
set_option linter.all false
set_option maxRecDepth 100000
namespace Go.Ev
open Go.ChangeShapes Go.WideShapes Go.RowKit
variable {P : Program}
section
variable {HH : Type} {enc : TypeId × Value → HH} {W : World} {r : Reach} {base b0 : Nat} {sp : Nat → Bool} {held : Bool} {t : TypeId} {v : Value} {d : DataW HH} {p : List MemPlace}
theorem bool_of (ht : P.underlying t = some .bool) (h : Value.okWide P W r b0 t v) : ∃ b, v = .bool b := by
  simp only [Value.okWide, ht, Cell.okWide] at h
  cases v <;> simp_all [Cell.ok]
theorem open_cell {k : PK} (hk : k.ty P t) (hval : Value.okWide P W r b0 t v) (h : DataW.Trod enc P W base sp held t v d p) : ∃ av, (∀ φ, VRel P φ av v) ∧ KOf k av := by
  obtain ⟨fuel, hf⟩ := h
  obtain ⟨u, av, hcs, hv, ho, hko⟩ := open_prim hk hf
  have hv1 : v.cells.toList = [v] := by
    cases k with
    | str => obtain ⟨s, rfl⟩ := okWide_string hk hval; rfl
    | int k => obtain ⟨n, rfl⟩ := okWide_int hk hval; rfl
    | bool =>
      obtain ⟨b, rfl⟩ := bool_of hk hval
      rfl
  rw [hv1] at hcs
  cases hcs
  exact ⟨av, hv, hko⟩
theorem open_agg {ks : List PK} (hf : Flat P t ks) (hval : Value.okWide P W r b0 t v) (h : DataW.Trod enc P W base sp held t v d p) : ∃ row, (∀ φ, VRel P φ (.agg row) v) ∧ RowOf ks row := by
  obtain ⟨fuel, hff⟩ := h
  obtain ⟨row, h1, h2, h3, h4⟩ := open_flat hf hff
  obtain ⟨fs, ht, _⟩ := hf.st
  simp only [Value.okWide, ht] at hval
  obtain ⟨cs, rfl, _⟩ := hval
  exact ⟨row, fun φ => .agg _ _ (h1 φ) h3, h4⟩
end
end Go.Ev
namespace Go.Proofs
open Go Go.Ev
theorem row2 {k1 k2 : PK} {row : List AV} (h : RowOf [k1, k2] row) : ∃ a b, row = [a, b] ∧ KOf k1 a ∧ KOf k2 b := by
  obtain ⟨hl, h⟩ := h
  match row, hl with
  | [a, b], _ => exact ⟨a, b, rfl, h 0 _ _ rfl rfl, h 1 _ _ rfl rfl⟩
theorem row5 {k1 k2 k3 k4 k5 : PK} {row : List AV} (h : RowOf [k1, k2, k3, k4, k5] row) : ∃ a b c d e, row = [a, b, c, d, e] ∧ KOf k1 a ∧ KOf k2 b ∧ KOf k3 c ∧ KOf k4 d ∧ KOf k5 e := by
  obtain ⟨hl, h⟩ := h
  match row, hl with
  | [a, b, c, d, e], _ => exact ⟨a, b, c, d, e, rfl, h 0 _ _ rfl rfl, h 1 _ _ rfl rfl, h 2 _ _ rfl rfl, h 3 _ _ rfl rfl, h 4 _ _ rfl rfl⟩
end Go.Proofs
namespace Go.Ev
open Go.ChangeShapes Go.WideShapes Go.RowKit
variable {P : Program} {HH : Type} {enc : TypeId × Value → HH} {w : World} {base : Nat} {sp : Nat → Bool} {held : Bool} {n : Nat} {e : TypeId} {cs : List Value} {x : DataW HH × List MemPlace}
theorem open_one {k : PK} (hk : k.ty P e) (h : DataW.trod enc P w base sp held n e cs = some x) : ∃ row, (∀ φ, VRels P φ row cs) ∧ cs.length = [k].length ∧ (∀ v ∈ cs, v.oneCell' = true) ∧ RowOf [k] row := by
  obtain ⟨v, av, rfl, hv, ho, hk⟩ := open_prim hk h
  refine ⟨[av], fun φ => .cons _ _ _ _ (hv φ) .nil, rfl, by simpa using ho, rfl, ?_⟩
  intro i k' v' h1 h2
  match i, h1, h2 with
  | 0, h1, h2 => cases h1; cases h2; exact hk
end Go.Ev
namespace Go.Proofs
open Go Go.Ev
theorem row1 {k : PK} {row : List AV} (h : RowOf [k] row) : ∃ a, row = [a] ∧ KOf k a := by
  obtain ⟨hl, h⟩ := h
  match row, hl with
  | [a], _ => exact ⟨a, rfl, h 0 _ _ rfl rfl⟩
theorem bools_of : ∀ {rows : List (List AV)}, (∀ r ∈ rows, RowOf [.bool] r) → ∃ l : List Bool, rows = l.map fun d => [AV.bool d]
  | [], _ => ⟨[], rfl⟩
  | r :: rows, h => by
    obtain ⟨a, rfl, ha⟩ := row1 (h r (by simp))
    obtain ⟨l, rfl⟩ := bools_of (rows := rows) fun x hx => h x (by simp [hx])
    cases ha
    rename_i b
    exact ⟨b :: l, rfl⟩
end Go.Proofs
namespace Go.Proofs.Ytiadcabmonbgiaa
open Go Go.Ev Go.ChangeShapes Go.WideShapes Go.ChangeAt Go.RowKit
theorem Try.own : ownKnob Try.prog.godebug = none := by kernel_rfl
theorem Try.laidOut : laidOutB Try.prog = true := by kernel_rfl
end Go.Proofs.Ytiadcabmonbgiaa
/- What was done, given to a law: opened. -/



set_option linter.all false
set_option maxRecDepth 100000
namespace Go.Ev
open Go.ChangeShapes Go.WideShapes Go.RowKit
variable {P : Program} {HH : Type} {enc : TypeId × Value → HH} {W : World}
theorem Opens.imp {e : TypeId} {n : Nat} {RR SS : Heap → List AV → Prop} (h : Opens P enc W e n RR) (hm : ∀ (H : Heap) (row : List AV) (l : List Blk), SS H row → SS (H.ext l) row) (hi : ∀ H row, RR H row → SS H row) : Opens P enc W e n SS := by
  refine ⟨h.cells, hm, fun fuel cs x hx h0 φ H hw hro => ?_⟩
  obtain ⟨φ', l, row, h1, h2, h3, h4, h5, h6, h7⟩ := h.run fuel cs x hx h0 φ H hw hro
  exact ⟨φ', l, row, h1, h2, h3, h4, h5, h6, hi _ _ h7⟩
theorem KOf.int_of {k : IntKind} {v : AV} (h : KOf (.int k) v) : ∃ n, v = .int k n := by cases h; exact ⟨_, rfl⟩
theorem KOf.str_of {v : AV} (h : KOf .str v) : ∃ l, v = .str l := by cases h; exact ⟨_, rfl⟩
end Go.Ev
namespace Go.Proofs
open Go Go.Ev Go.ChangeShapes Go.WideShapes Go.RowKit
variable {HH : Type} {enc : TypeId × Value → HH} {W : World}
theorem opens_rw : Opens Try.prog enc W 34 3 fun _ row => ∃ r : Rw, row = r.enc := by
  refine (Opens.struct (P := Try.prog) (enc := enc) (W := W) (m := 3) Try.underlying34 (by kernel_rfl) (by exact OpF.cons _ _ _ 1 2 _ _ (by rfl) (by exact Opens.prim _ _ _ (k := .str) Try.underlying9 (by kernel_rfl)) (by exact OpF.cons _ _ _ 1 1 _ _ (by rfl) (by exact Opens.prim _ _ _ (k := .str) Try.underlying9 (by kernel_rfl)) (by exact OpF.cons _ _ _ 1 0 _ _ (by rfl) (by exact Opens.prim _ _ _ (k := .int .i64) Try.underlying3 (by kernel_rfl)) (by exact OpF.nil _))))).imp (fun _ _ _ h => h) ?_
  rintro H _ ⟨_, _, rfl, ⟨_, rfl, h1⟩, _, _, rfl, ⟨_, rfl, h2⟩, _, _, rfl, ⟨_, rfl, h3⟩, rfl⟩
  obtain ⟨a, rfl⟩ := h1.str_of
  obtain ⟨b, rfl⟩ := h2.str_of
  obtain ⟨c, rfl⟩ := h3.int_of
  exact ⟨⟨a, b, c⟩, rfl⟩
theorem rows_rw : ∀ {xs : List (List AV)}, (∀ r ∈ xs, ∃ q : Rw, r = q.enc) → ∃ l : List Rw, xs = l.map Rw.enc
  | [], _ => ⟨[], rfl⟩
  | x :: xs, h => by
    obtain ⟨q, rfl⟩ := h x (by simp)
    obtain ⟨l, rfl⟩ := rows_rw (xs := xs) fun r hr => h r (by simp [hr])
    exact ⟨q :: l, rfl⟩
theorem opens_rws : Opens Try.prog enc W 31 1 fun H row => ∃ (v : AV) (l : List Rw), row = [v] ∧ Arr H 3 v (l.map Rw.enc) ∧ l.length ≤ 9223372036854775807 := by
  refine (Opens.slice (P := Try.prog) (enc := enc) (W := W) (n := 3) Try.underlying31 (by kernel_rfl) (by decide) opens_rw).imp (fun H row L ⟨v, l, h1, h2, h3⟩ => ⟨v, l, h1, h2.ext L, h3⟩) ?_
  rintro H _ ⟨av, xs, rfl, h1, h2, h3⟩
  obtain ⟨l, rfl⟩ := rows_rw h2
  exact ⟨av, l, rfl, h1, by rwa [List.length_map] at h3⟩
theorem opens_an : Opens Try.prog enc W 46 4 fun H row => ∃ a : An, row = a.enc ∧ a.ok H := by
  refine (Opens.struct (P := Try.prog) (enc := enc) (W := W) (m := 4) Try.underlying46 (by kernel_rfl) (by exact OpF.cons _ _ _ 1 3 _ _ (by rfl) (by exact Opens.prim _ _ _ (k := .int .i64) Try.underlying3 (by kernel_rfl)) (by exact OpF.cons _ _ _ 1 2 _ _ (by rfl) (by exact Opens.prim _ _ _ (k := .str) Try.underlying9 (by kernel_rfl)) (by exact OpF.cons _ _ _ 1 1 _ _ (by rfl) (by exact Opens.prim _ _ _ (k := .int .i64) Try.underlying3 (by kernel_rfl)) (by exact OpF.cons _ _ _ 1 0 _ _ (by rfl) (by exact opens_rws) (by exact OpF.nil _)))))).imp (fun H row L ⟨a, h1, h2⟩ => ⟨a, h1, h2.ext L⟩) ?_
  rintro H _ ⟨_, _, rfl, ⟨_, rfl, h1⟩, _, _, rfl, ⟨_, rfl, h2⟩, _, _, rfl, ⟨_, rfl, h3⟩, _, _, rfl, ⟨v, l, rfl, h4, h5⟩, rfl⟩
  obtain ⟨a, rfl⟩ := h1.int_of
  obtain ⟨b, rfl⟩ := h2.str_of
  obtain ⟨c, rfl⟩ := h3.int_of
  exact ⟨⟨a, b, c, l, v⟩, rfl, h4, h5⟩
theorem opens_dn : Opens Try.prog enc W 48 6 fun H row => ∃ d : Dn, row = d.enc ∧ d.an.ok H := by
  refine (Opens.struct (P := Try.prog) (enc := enc) (W := W) (m := 6) Try.underlying48 (by kernel_rfl) (by exact OpF.cons _ _ _ 1 5 _ _ (by rfl) (by exact Opens.prim _ _ _ (k := .int .i64) Try.underlying3 (by kernel_rfl)) (by exact OpF.cons _ _ _ 1 4 _ _ (by rfl) (by exact Opens.prim _ _ _ (k := .int .i64) Try.underlying3 (by kernel_rfl)) (by exact OpF.cons _ _ _ 4 0 _ _ (by rfl) (by exact opens_an) (by exact OpF.nil _))))).imp (fun H row L ⟨a, h1, h2⟩ => ⟨a, h1, h2.ext L⟩) ?_
  rintro H _ ⟨_, _, rfl, ⟨_, rfl, h1⟩, _, _, rfl, ⟨_, rfl, h2⟩, _, _, rfl, ⟨a, rfl, h3⟩, rfl⟩
  obtain ⟨x, rfl⟩ := h1.int_of
  obtain ⟨y, rfl⟩ := h2.int_of
  exact ⟨⟨x, y, a⟩, rfl, h3⟩
theorem rows_dn {H : Heap} : ∀ {xs : List (List AV)}, (∀ r ∈ xs, ∃ d : Dn, r = d.enc ∧ d.an.ok H) → ∃ l : List Dn, xs = l.map Dn.enc ∧ allOk H l
  | [], _ => ⟨[], rfl, fun d h => by cases h⟩
  | x :: xs, h => by
    obtain ⟨q, rfl, hq⟩ := h x (by simp)
    obtain ⟨l, rfl, hl⟩ := rows_dn (xs := xs) fun r hr => h r (by simp [hr])
    exact ⟨q :: l, rfl, fun d hd => by 
      rcases List.mem_cons.1 hd with rfl | hd
      · exact hq
      · exact hl d hd⟩
end Go.Proofs
