/- index: the law that builds, proved. -/
import Derived.Test.YtiadcabmonbgiaaX9Z
import Derived.Test.YtiadcabmonbgiaaEvAI
import Derived.Test.YtiadcabmonbgiaaRows
set_option linter.all false
set_option maxRecDepth 100000
namespace Go.Ev
open Go.ChangeShapes Go.WideShapes Go.RowKit
variable {P : Program}
section
variable {HH : Type} {enc : TypeId × Value → HH} {W : World} {r : Reach} {base b0 : Nat} {sp : Nat → Bool} {held : Bool} {t : TypeId} {v : Value} {d : DataW HH} {p : List MemPlace}
theorem bool_of (ht : P.underlying t = some .bool) (h : Value.okWide P W r b0 t v) : ∃ b, v = .bool b := by
  simp only [Value.okWide, ht, Cell.okWide] at h
  cases v <;> simp_all [Cell.ok]
theorem open_cell {k : PK} (hk : k.ty P t) (hval : Value.okWide P W r b0 t v) (h : DataW.Trod enc P W base sp held t v d p) : ∃ av, (∀ φ, VRel P φ av v) ∧ KOf k av := by
  obtain ⟨fuel, hf⟩ := h
  obtain ⟨u, av, hcs, hv, ho, hko⟩ := open_prim hk hf
  have hv1 : v.cells.toList = [v] := by
    cases k with
    | str => obtain ⟨s, rfl⟩ := okWide_string hk hval; rfl
    | int k => obtain ⟨n, rfl⟩ := okWide_int hk hval; rfl
    | bool =>
      obtain ⟨b, rfl⟩ := bool_of hk hval
      rfl
  rw [hv1] at hcs
  cases hcs
  exact ⟨av, hv, hko⟩
theorem open_agg {ks : List PK} (hf : Flat P t ks) (hval : Value.okWide P W r b0 t v) (h : DataW.Trod enc P W base sp held t v d p) : ∃ row, (∀ φ, VRel P φ (.agg row) v) ∧ RowOf ks row := by
  obtain ⟨fuel, hff⟩ := h
  obtain ⟨row, h1, h2, h3, h4⟩ := open_flat hf hff
  obtain ⟨fs, ht, _⟩ := hf.st
  simp only [Value.okWide, ht] at hval
  obtain ⟨cs, rfl, _⟩ := hval
  exact ⟨row, fun φ => .agg _ _ (h1 φ) h3, h4⟩
end
end Go.Ev
namespace Go.Proofs
open Go Go.Ev
theorem row2 {k1 k2 : PK} {row : List AV} (h : RowOf [k1, k2] row) : ∃ a b, row = [a, b] ∧ KOf k1 a ∧ KOf k2 b := by
  obtain ⟨hl, h⟩ := h
  match row, hl with
  | [a, b], _ => exact ⟨a, b, rfl, h 0 _ _ rfl rfl, h 1 _ _ rfl rfl⟩
theorem row5 {k1 k2 k3 k4 k5 : PK} {row : List AV} (h : RowOf [k1, k2, k3, k4, k5] row) : ∃ a b c d e, row = [a, b, c, d, e] ∧ KOf k1 a ∧ KOf k2 b ∧ KOf k3 c ∧ KOf k4 d ∧ KOf k5 e := by
  obtain ⟨hl, h⟩ := h
  match row, hl with
  | [a, b, c, d, e], _ => exact ⟨a, b, c, d, e, rfl, h 0 _ _ rfl rfl, h 1 _ _ rfl rfl, h 2 _ _ rfl rfl, h 3 _ _ rfl rfl, h 4 _ _ rfl rfl⟩
abbrev cellK : List PK := [.str, .str, .int .i64, .bool, .int .i64]
theorem cell_of {row : List AV} (h : RowOf cellK row) : ∃ c : Cell, row = c.enc := by
  obtain ⟨a, b, c, d, e, rfl, h1, h2, h3, h4, h5⟩ := row5 h
  cases h1; cases h2; cases h3; cases h4; cases h5
  exact ⟨⟨_, _, _, _, _⟩, rfl⟩
theorem cells_of : ∀ {rows : List (List AV)}, (∀ r ∈ rows, RowOf cellK r) → ∃ l : List Cell, rows = l.map Cell.enc
  | [], _ => ⟨[], rfl⟩
  | r :: rows, h => by
    obtain ⟨c, rfl⟩ := cell_of (h r (by simp))
    obtain ⟨l, rfl⟩ := cells_of (rows := rows) fun x hx => h x (by simp [hx])
    exact ⟨c :: l, rfl⟩
theorem flat24 : Flat Try.prog 24 cellK := by
  refine ⟨⟨_, Try.underlying24, rfl, ?_⟩, by kernel_rfl⟩
  intro i f h
  match i, h with
  | 0, h => cases h; exact ⟨rfl, by kernel_rfl, _, rfl, Try.underlying9⟩
  | 1, h => cases h; exact ⟨rfl, by kernel_rfl, _, rfl, Try.underlying9⟩
  | 2, h => cases h; exact ⟨rfl, by kernel_rfl, _, rfl, Try.underlying3⟩
  | 3, h => cases h; exact ⟨rfl, by kernel_rfl, _, rfl, Try.underlying4⟩
  | 4, h => cases h; exact ⟨rfl, by kernel_rfl, _, rfl, Try.underlying3⟩
theorem flat26 : Flat Try.prog 26 [.str, .str] := by
  refine ⟨⟨_, Try.underlying26, rfl, ?_⟩, by kernel_rfl⟩
  intro i f h
  match i, h with
  | 0, h => cases h; exact ⟨rfl, by kernel_rfl, _, rfl, Try.underlying9⟩
  | 1, h => cases h; exact ⟨rfl, by kernel_rfl, _, rfl, Try.underlying9⟩
end Go.Proofs
namespace Go.Proofs.Ytiadcabmonbgiaa
open Go Go.Ev Go.ChangeShapes Go.WideShapes Go.ChangeAt Go.RowKit
theorem Try.own : ownKnob Try.prog.godebug = none := by kernel_rfl
theorem Try.laidOut : laidOutB Try.prog = true := by kernel_rfl
set_option maxRecDepth 100000 in
theorem indexBuilds_lifted (os : Os) (started : os.Started) (H : Type) (enc : TypeId × Value → H) :
    ReturnsInHanded {} Try.checked os 4 .any (Rows.indexBuildsSpec.pre6 enc Try.prog Try.f4 Rows.indexBuildsRow.domain false) (Rows.indexBuildsSpec.post enc Try.prog Try.f4 false true false false) := by
  refine returnsInHanded_of_change (C := Try.checked) Try.own started (by kernel_rfl) Try.func4
    (ChangeSpec.witness6 (enc := enc) (C := Try.checked) false ⟨#[], #[.slice none 0 0], []⟩ 8 (by kernel_rfl) (by kernel_rfl) (by kernel_rfl) (by kernel_rfl)) ?_
  intro W base args ds gs before hval0 hW hcnd _
  have hval : ∀ (j : Nat) t v, Try.f4.params[j]? = some t → args[j]? = some v → Value.okWide Try.prog W .any base t v := hval0
  obtain ⟨p, q, hA0, hV, rfl, hfz, hnd⟩ := id hW
  have hA : DataW.TrodAll enc Try.prog W 0 (fun _ => true) true Try.f4.params.toList args.toList ds p := hA0
  rw [Try.params4] at hA hval
  obtain ⟨v0, vs0, d0, ds0, p0, q0, hargs, rfl, rfl, h0, r0⟩ := trodAll_cons hA
  obtain ⟨rfl, rfl, rfl⟩ := trodAll_nil r0
  obtain rfl : args = #[v0] := by cases args; simp_all
  obtain ⟨φ, l, av, xs, hw, hro, _, hv0, hArr, hrows, hlen⟩ := open_rows Try.underlying22 (ks := cellK) (by decide) (by kernel_rfl) (fun n cs x hx => open_flat flat24 hx) (hval 0 22 v0 rfl rfl) h0 (noHeap_rel W) noHeap_ro
  obtain ⟨cl, rfl⟩ := cells_of hrows
  rw [List.length_map] at hlen
  exact law_calls (P := Try.prog) (fn := Try.f4) (s := Rows.indexBuildsSpec) (tb := 4) Try.laidOut (by decide +kernel) (by kernel_rfl) Try.underlying4 rfl rfl rfl rfl hW hw
    (.cons _ _ _ _ hv0 .nil) hro (f4_ok hArr hlen)
theorem indexBuilds_holds : Rows.IndexBuildsSaid :=
  OpenClaim.holds_of_wide 4 Try.f4 rfl rfl rfl rfl rfl rfl rfl ⟨rfl, rfl, rfl, rfl, rfl⟩ rfl rfl rfl rfl rfl (by kernel_rfl) Try.func4 (by kernel_rfl)
    (of_decide_eq_true (by kernel_rfl)) (by unfold Func.isWrapper; first | (rw [if_pos (by decide +kernel)]; kernel_rfl) | (rw [if_neg (by decide +kernel)]; exact ⟨rfl, rfl⟩))
    (fun os started H enc _ => indexBuilds_lifted os started H enc)
end Go.Proofs.Ytiadcabmonbgiaa
#print axioms Go.Proofs.Ytiadcabmonbgiaa.indexBuilds_holds
