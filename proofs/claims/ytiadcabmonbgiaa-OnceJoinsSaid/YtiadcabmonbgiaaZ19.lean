/- once: what was done in one of two is done in both joined: the law, proved. -/
import Derived.Test.YtiadcabmonbgiaaZ18
import Derived.Test.YtiadcabmonbgiaaRows
set_option linter.all false
set_option maxRecDepth 100000
namespace Go.Proofs
open Go Go.Ev
theorem byte_of {v : AV} (h : KOf (.int .u8) v) : ∃ k : Nat, v = .int .u8 (k : Int) ∧ k < 256 := by
  cases h
  rename_i n h
  simp only [Lit.wf, Bool.and_eq_true, decide_eq_true_eq] at h
  have h1 : 0 ≤ n := h.1
  have h2 : n ≤ 255 := h.2
  exact ⟨n.toNat, by rw [Int.toNat_of_nonneg h1], by omega⟩
end Go.Proofs
namespace Go.Proofs.Ytiadcabmonbgiaa
open Go Go.Ev Go.ChangeShapes Go.WideShapes Go.ChangeAt Go.RowKit
set_option maxRecDepth 100000 in
theorem onceJoins_lifted (os : Os) (started : os.Started) (H : Type) (enc : TypeId × Value → H) :
    ReturnsInHanded {} Try.checked os 7 .any (Rows.onceJoinsSpec.pre6 enc Try.prog Try.f7 Rows.onceJoinsRow.domain false) (Rows.onceJoinsSpec.post enc Try.prog Try.f7 false true false false) := by
  refine returnsInHanded_of_change (C := Try.checked) Try.own started (by kernel_rfl) Try.func7
    (ChangeSpec.witness6 (enc := enc) (C := Try.checked) false ⟨#[], #[.slice none 0 0, .slice none 0 0, .int .u8 0, .int .u8 0], []⟩ 8 (by kernel_rfl) (by kernel_rfl) (by kernel_rfl) (by kernel_rfl)) ?_
  intro W base args ds gs before hval0 hW hcnd _
  have hval : ∀ (j : Nat) t v, Try.f7.params[j]? = some t → args[j]? = some v → Value.okWide Try.prog W .any base t v := hval0
  obtain ⟨p, q, hA0, hV, rfl, hfz, hnd⟩ := id hW
  have hA : DataW.TrodAll enc Try.prog W 0 (fun _ => true) true Try.f7.params.toList args.toList ds p := hA0
  rw [Try.params7] at hA hval
  obtain ⟨v0, vs0, d0, ds0, p0, q0, hargs, rfl, rfl, h0, r0⟩ := trodAll_cons hA
  obtain ⟨v1, vs1, d1, ds1, p1, q1, rfl, rfl, rfl, h1, r1⟩ := trodAll_cons r0
  obtain ⟨v2, vs2, d2, ds2, p2, q2, rfl, rfl, rfl, h2, r2⟩ := trodAll_cons r1
  obtain ⟨v3, vs3, d3, ds3, p3, q3, rfl, rfl, rfl, h3, r3⟩ := trodAll_cons r2
  obtain ⟨rfl, rfl, rfl⟩ := trodAll_nil r3
  obtain rfl : args = #[v0, v1, v2, v3] := by cases args; simp_all
  obtain ⟨φ, l, av, xs, hw, hro, _, hv0, hArr, hrows, hlen⟩ := Opens.given Try.underlying44 (by kernel_rfl) (by decide) opens_dn (hval 0 44 v0 rfl rfl) h0 (noHeap_rel W) noHeap_ro
  obtain ⟨a, rfl, ha⟩ := rows_dn hrows
  obtain ⟨φ2, l2, av2, xs2, hw2, hro2, hle, hv1, hArr2, hrows2, hlen2⟩ := Opens.given Try.underlying44 (by kernel_rfl) (by decide) opens_dn (hval 1 44 v1 rfl rfl) h1 hw hro
  obtain ⟨b, rfl, hb⟩ := rows_dn hrows2
  obtain ⟨w2, hv2, hk2⟩ := open_cell (k := .int .u8) Try.underlying5 (hval 2 5 v2 rfl rfl) h2
  obtain ⟨w3, hv3, hk3⟩ := open_cell (k := .int .u8) Try.underlying5 (hval 3 5 v3 rfl rfl) h3
  obtain ⟨x, rfl, hx⟩ := byte_of hk2
  obtain ⟨y, rfl, hy⟩ := byte_of hk3
  rw [List.length_map] at hlen hlen2
  exact law_calls (P := Try.prog) (fn := Try.f7) (s := Rows.onceJoinsSpec) (tb := 4) Try.laidOut (by decide +kernel) (by kernel_rfl) Try.underlying4 rfl rfl rfl rfl hW hw2
    (.cons _ _ _ _ (hv0.mono hle) (.cons _ _ _ _ hv1 (.cons _ _ _ _ (hv2 φ2) (.cons _ _ _ _ (hv3 φ2) .nil)))) hro2 (f7_ok (hArr.ext _) hArr2 (ha.ext _) hb hlen hlen2 hx hy)
theorem onceJoins_holds : Rows.OnceJoinsSaid :=
  OpenClaim.holds_of_wide 7 Try.f7 rfl rfl rfl rfl rfl rfl rfl ⟨rfl, rfl, rfl, rfl, rfl⟩ rfl rfl rfl rfl rfl (by kernel_rfl) Try.func7 (by kernel_rfl)
    (of_decide_eq_true (by kernel_rfl)) (by unfold Func.isWrapper; first | (rw [if_pos (by decide +kernel)]; kernel_rfl) | (rw [if_neg (by decide +kernel)]; exact ⟨rfl, rfl⟩))
    (fun os started H enc _ => onceJoins_lifted os started H enc)
end Go.Proofs.Ytiadcabmonbgiaa
#print axioms Go.Proofs.Ytiadcabmonbgiaa.onceJoins_holds
