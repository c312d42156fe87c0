/- once: the law of every rows of what was done, proved. -/
import Derived.Test.YtiadcabmonbgiaaZ20
import Derived.Test.YtiadcabmonbgiaaRows
set_option linter.all false
set_option maxRecDepth 100000
namespace Go.Proofs
open Go Go.Ev
end Go.Proofs
namespace Go.Proofs.Ytiadcabmonbgiaa
open Go Go.Ev Go.ChangeShapes Go.WideShapes Go.ChangeAt Go.RowKit
set_option maxRecDepth 100000 in
theorem onceTells_lifted (os : Os) (started : os.Started) (H : Type) (enc : TypeId × Value → H) :
    ReturnsInHanded {} Try.checked os 6 .any (Rows.onceTellsSpec.pre6 enc Try.prog Try.f6 Rows.onceTellsRow.domain false) (Rows.onceTellsSpec.post enc Try.prog Try.f6 false true false false) := by
  refine returnsInHanded_of_change (C := Try.checked) Try.own started (by kernel_rfl) Try.func6
    (ChangeSpec.witness6 (enc := enc) (C := Try.checked) false ⟨#[], #[.slice none 0 0, .slice none 0 0, .agg #[.int .i64 0, .int .i64 0, .int .i64 0, .string ByteArray.empty, .int .i64 0, .slice none 0 0], .int .i64 0, .int .i64 0], []⟩ 8 (by kernel_rfl) (by kernel_rfl) (by kernel_rfl) (by kernel_rfl)) ?_
  intro W base args ds gs before hval0 hW hcnd _
  have hval : ∀ (j : Nat) t v, Try.f6.params[j]? = some t → args[j]? = some v → Value.okWide Try.prog W .any base t v := hval0
  obtain ⟨p, q, hA0, hV, rfl, hfz, hnd⟩ := id hW
  have hA : DataW.TrodAll enc Try.prog W 0 (fun _ => true) true Try.f6.params.toList args.toList ds p := hA0
  rw [Try.params6] at hA hval
  obtain ⟨v0, vs0, d0, ds0, p0, q0, hargs, rfl, rfl, h0, r0⟩ := trodAll_cons hA
  obtain ⟨v1, vs1, d1, ds1, p1, q1, rfl, rfl, rfl, h1, r1⟩ := trodAll_cons r0
  obtain ⟨v2, vs2, d2, ds2, p2, q2, rfl, rfl, rfl, h2, r2⟩ := trodAll_cons r1
  obtain ⟨v3, vs3, d3, ds3, p3, q3, rfl, rfl, rfl, h3, r3⟩ := trodAll_cons r2
  obtain ⟨v4, vs4, d4, ds4, p4, q4, rfl, rfl, rfl, h4, r4⟩ := trodAll_cons r3
  obtain ⟨rfl, rfl, rfl⟩ := trodAll_nil r4
  obtain rfl : args = #[v0, v1, v2, v3, v4] := by cases args; simp_all
  obtain ⟨φ, l, av, xs, hw, hro, _, hv0, hArr, hrows, hlen⟩ := Opens.given Try.underlying44 (by kernel_rfl) (by decide) opens_dn (hval 0 44 v0 rfl rfl) h0 (noHeap_rel W) noHeap_ro
  obtain ⟨a, rfl, ha⟩ := rows_dn hrows
  obtain ⟨φ2, l2, av2, xs2, hw2, hro2, hle, hv1, hArr2, hrows2, hlen2⟩ := Opens.given Try.underlying44 (by kernel_rfl) (by decide) opens_dn (hval 1 44 v1 rfl rfl) h1 hw hro
  obtain ⟨b, rfl, hb⟩ := rows_dn hrows2
  obtain ⟨φ3, l3, row, hw3, hro3, hle3, hv2, d, rfl, hd⟩ := Opens.givenS Try.underlying48 opens_dn (hval 2 48 v2 rfl rfl) h2 hw2 hro2
  obtain ⟨w3, hv3, hk3⟩ := open_cell (k := .int .i64) Try.underlying3 (hval 3 3 v3 rfl rfl) h3
  obtain ⟨w4, hv4, hk4⟩ := open_cell (k := .int .i64) Try.underlying3 (hval 4 3 v4 rfl rfl) h4
  obtain ⟨x, rfl⟩ := hk3.int_of
  obtain ⟨y, rfl⟩ := hk4.int_of
  rw [List.length_map] at hlen hlen2
  exact law_calls (P := Try.prog) (fn := Try.f6) (s := Rows.onceTellsSpec) (tb := 4) Try.laidOut (by decide +kernel) (by kernel_rfl) Try.underlying4 rfl rfl rfl rfl hW hw3
    (.cons _ _ _ _ ((hv0.mono hle).mono hle3) (.cons _ _ _ _ (hv1.mono hle3) (.cons _ _ _ _ hv2 (.cons _ _ _ _ (hv3 φ3) (.cons _ _ _ _ (hv4 φ3) .nil))))) hro3 (f6_ok ((hArr.ext _).ext _) (hArr2.ext _) ((ha.ext _).ext _) (hb.ext _) hd hlen hlen2 x y)
theorem onceTells_holds : Rows.OnceTellsSaid :=
  OpenClaim.holds_of_wide 6 Try.f6 rfl rfl rfl rfl rfl rfl rfl ⟨rfl, rfl, rfl, rfl, rfl⟩ rfl rfl rfl rfl rfl (by kernel_rfl) Try.func6 (by kernel_rfl)
    (of_decide_eq_true (by kernel_rfl)) (by unfold Func.isWrapper; first | (rw [if_pos (by decide +kernel)]; kernel_rfl) | (rw [if_neg (by decide +kernel)]; exact ⟨rfl, rfl⟩))
    (fun os started H enc _ => onceTells_lifted os started H enc)
end Go.Proofs.Ytiadcabmonbgiaa
#print axioms Go.Proofs.Ytiadcabmonbgiaa.onceTells_holds
