/- index: the law of rows, proved. -/
import Derived.Test.YtiadcabmonbgiaaZ14
set_option linter.all false
set_option maxRecDepth 100000
namespace Go.Ev
open Go.ChangeShapes Go.WideShapes Go.RowKit
variable {P : Program} {HH : Type} {enc : TypeId × Value → HH} {w : World} {base : Nat} {sp : Nat → Bool} {held : Bool} {n : Nat} {e : TypeId} {cs : List Value} {x : DataW HH × List MemPlace}
theorem open_one {k : PK} (hk : k.ty P e) (h : DataW.trod enc P w base sp held n e cs = some x) : ∃ row, (∀ φ, VRels P φ row cs) ∧ cs.length = [k].length ∧ (∀ v ∈ cs, v.oneCell' = true) ∧ RowOf [k] row := by
  obtain ⟨v, av, rfl, hv, ho, hk⟩ := open_prim hk h
  refine ⟨[av], fun φ => .cons _ _ _ _ (hv φ) .nil, rfl, by simpa using ho, rfl, ?_⟩
  intro i k' v' h1 h2
  match i, h1, h2 with
  | 0, h1, h2 => cases h1; cases h2; exact hk
end Go.Ev
namespace Go.Proofs
open Go Go.Ev
theorem row1 {k : PK} {row : List AV} (h : RowOf [k] row) : ∃ a, row = [a] ∧ KOf k a := by
  obtain ⟨hl, h⟩ := h
  match row, hl with
  | [a], _ => exact ⟨a, rfl, h 0 _ _ rfl rfl⟩
theorem bools_of : ∀ {rows : List (List AV)}, (∀ r ∈ rows, RowOf [.bool] r) → ∃ l : List Bool, rows = l.map fun d => [AV.bool d]
  | [], _ => ⟨[], rfl⟩
  | r :: rows, h => by
    obtain ⟨a, rfl, ha⟩ := row1 (h r (by simp))
    obtain ⟨l, rfl⟩ := bools_of (rows := rows) fun x hx => h x (by simp [hx])
    cases ha
    rename_i b
    exact ⟨b :: l, rfl⟩
end Go.Proofs
namespace Go.Proofs.Ytiadcabmonbgiaa
open Go Go.Ev Go.ChangeShapes Go.WideShapes Go.ChangeAt Go.RowKit
set_option maxRecDepth 100000 in
theorem indexRows_lifted (os : Os) (started : os.Started) (H : Type) (enc : TypeId × Value → H) :
    ReturnsInHanded {} Try.checked os 5 .any (Rows.indexRowsSpec.pre6 enc Try.prog Try.f5 Rows.indexRowsRow.domain false) (Rows.indexRowsSpec.post enc Try.prog Try.f5 false true false false) := by
  refine returnsInHanded_of_change (C := Try.checked) Try.own started (by kernel_rfl) Try.func5
    (ChangeSpec.witness6 (enc := enc) (C := Try.checked) false ⟨#[], #[.slice none 0 0, .int .u8 0, .int .u8 0, .int .i64 0], []⟩ 8 (by kernel_rfl) (by kernel_rfl) (by kernel_rfl) (by kernel_rfl)) ?_
  intro W base args ds gs before hval0 hW hcnd _
  have hval : ∀ (j : Nat) t v, Try.f5.params[j]? = some t → args[j]? = some v → Value.okWide Try.prog W .any base t v := hval0
  obtain ⟨p, q, hA0, hV, rfl, hfz, hnd⟩ := id hW
  have hA : DataW.TrodAll enc Try.prog W 0 (fun _ => true) true Try.f5.params.toList args.toList ds p := hA0
  rw [Try.params5] at hA hval
  obtain ⟨v0, vs0, d0, ds0, p0, q0, hargs, rfl, rfl, h0, r0⟩ := trodAll_cons hA
  obtain ⟨v1, vs1, d1, ds1, p1, q1, rfl, rfl, rfl, h1, r1⟩ := trodAll_cons r0
  obtain ⟨v2, vs2, d2, ds2, p2, q2, rfl, rfl, rfl, h2, r2⟩ := trodAll_cons r1
  obtain ⟨v3, vs3, d3, ds3, p3, q3, rfl, rfl, rfl, h3, r3⟩ := trodAll_cons r2
  obtain ⟨rfl, rfl, rfl⟩ := trodAll_nil r3
  obtain rfl : args = #[v0, v1, v2, v3] := by cases args; simp_all
  obtain ⟨φ, l, av, xs, hw, hro, _, hv0, hArr, hrows, hlen⟩ := open_rows Try.underlying40 (ks := [.bool]) (by decide) (by kernel_rfl) (fun n cs x hx => open_one Try.underlying4 hx) (hval 0 40 v0 rfl rfl) h0 (noHeap_rel W) noHeap_ro
  obtain ⟨bl, rfl⟩ := bools_of hrows
  obtain ⟨w1, hv1, hk1⟩ := open_cell (k := .int .u8) Try.underlying5 (hval 1 5 v1 rfl rfl) h1
  obtain ⟨w2, hv2, hk2⟩ := open_cell (k := .int .u8) Try.underlying5 (hval 2 5 v2 rfl rfl) h2
  obtain ⟨w3, hv3, hk3⟩ := open_cell (k := .int .i64) Try.underlying3 (hval 3 3 v3 rfl rfl) h3
  cases hk1; cases hk2; cases hk3
  exact law_calls (P := Try.prog) (fn := Try.f5) (s := Rows.indexRowsSpec) (tb := 4) Try.laidOut (by decide +kernel) (by kernel_rfl) Try.underlying4 rfl rfl rfl rfl hW hw
    (.cons _ _ _ _ hv0 (.cons _ _ _ _ (hv1 φ) (.cons _ _ _ _ (hv2 φ) (.cons _ _ _ _ (hv3 φ) .nil)))) hro (f5_ok hArr _ _ _)
theorem indexRows_holds : Rows.IndexRowsSaid :=
  OpenClaim.holds_of_wide 5 Try.f5 rfl rfl rfl rfl rfl rfl rfl ⟨rfl, rfl, rfl, rfl, rfl⟩ rfl rfl rfl rfl rfl (by kernel_rfl) Try.func5 (by kernel_rfl)
    (of_decide_eq_true (by kernel_rfl)) (by unfold Func.isWrapper; first | (rw [if_pos (by decide +kernel)]; kernel_rfl) | (rw [if_neg (by decide +kernel)]; exact ⟨rfl, rfl⟩))
    (fun os started H enc _ => indexRows_lifted os started H enc)
end Go.Proofs.Ytiadcabmonbgiaa
#print axioms Go.Proofs.Ytiadcabmonbgiaa.indexRows_holds
