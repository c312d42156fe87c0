/- token: the law of the best of two, proved. -/
import Derived.Test.YtiadcabmonbgiaaZ12
import Derived.Test.YtiadcabmonbgiaaRows
set_option linter.all false
set_option maxRecDepth 100000
namespace Go.Proofs
open Go Go.Ev
theorem flat69 : Flat Try.prog 69 [.str, .int .i64] := by
  refine ⟨⟨_, Try.underlying69, rfl, ?_⟩, by kernel_rfl⟩
  intro i f h
  match i, h with
  | 0, h => cases h; exact ⟨rfl, by kernel_rfl, _, rfl, Try.underlying9⟩
  | 1, h => cases h; exact ⟨rfl, by kernel_rfl, _, rfl, Try.underlying3⟩
theorem sn_of {row : List AV} (h : RowOf [.str, .int .i64] row) : ∃ c : Sn, row = c.enc := by
  obtain ⟨a, b, rfl, h1, h2⟩ := row2 h
  cases h1; cases h2
  exact ⟨⟨_, _⟩, rfl⟩
theorem sns_of : ∀ {rows : List (List AV)}, (∀ r ∈ rows, RowOf [.str, .int .i64] r) → ∃ l : List Sn, rows = l.map Sn.enc
  | [], _ => ⟨[], rfl⟩
  | r :: rows, h => by
    obtain ⟨c, rfl⟩ := sn_of (h r (by simp))
    obtain ⟨l, rfl⟩ := sns_of (rows := rows) fun x hx => h x (by simp [hx])
    exact ⟨c :: l, rfl⟩
end Go.Proofs
namespace Go.Proofs.Ytiadcabmonbgiaa
open Go Go.Ev Go.ChangeShapes Go.WideShapes Go.ChangeAt Go.RowKit
set_option maxRecDepth 100000 in
theorem tokenBest_lifted (os : Os) (started : os.Started) (H : Type) (enc : TypeId × Value → H) :
    ReturnsInHanded {} Try.checked os 9 .any (Rows.tokenBestSpec.pre6 enc Try.prog Try.f9 Rows.tokenBestRow.domain false) (Rows.tokenBestSpec.post enc Try.prog Try.f9 false true false false) := by
  refine returnsInHanded_of_change (C := Try.checked) Try.own started (by kernel_rfl) Try.func9
    (ChangeSpec.witness6 (enc := enc) (C := Try.checked) false ⟨#[], #[.slice none 0 0, .slice none 0 0, .string .empty], []⟩ 8 (by kernel_rfl) (by kernel_rfl) (by kernel_rfl) (by kernel_rfl)) ?_
  intro W base args ds gs before hval0 hW hcnd _
  have hval : ∀ (j : Nat) t v, Try.f9.params[j]? = some t → args[j]? = some v → Value.okWide Try.prog W .any base t v := hval0
  obtain ⟨p, q, hA0, hV, rfl, hfz, hnd⟩ := id hW
  have hA : DataW.TrodAll enc Try.prog W 0 (fun _ => true) true Try.f9.params.toList args.toList ds p := hA0
  rw [Try.params9] at hA hval
  obtain ⟨v0, vs0, d0, ds0, p0, q0, hargs, rfl, rfl, h0, r0⟩ := trodAll_cons hA
  obtain ⟨v1, vs1, d1, ds1, p1, q1, rfl, rfl, rfl, h1, r1⟩ := trodAll_cons r0
  obtain ⟨v2, vs2, d2, ds2, p2, q2, rfl, rfl, rfl, h2, r2⟩ := trodAll_cons r1
  obtain ⟨rfl, rfl, rfl⟩ := trodAll_nil r2
  obtain rfl : args = #[v0, v1, v2] := by cases args; simp_all
  obtain ⟨φ, l, av, xs, hw, hro, _, hv0, hArr, hrows, hlen⟩ := open_rows Try.underlying60 (ks := [.str, .int .i64]) (by decide) (by kernel_rfl) (fun n cs x hx => open_flat flat69 hx) (hval 0 60 v0 rfl rfl) h0 (noHeap_rel W) noHeap_ro
  obtain ⟨cl, rfl⟩ := sns_of hrows
  obtain ⟨φ2, l2, av2, xs2, hw2, hro2, hle, hv1, hArr2, hrows2, hlen2⟩ := open_rows Try.underlying60 (ks := [.str, .int .i64]) (by decide) (by kernel_rfl) (fun n cs x hx => open_flat flat69 hx) (hval 1 60 v1 rfl rfl) h1 hw hro
  obtain ⟨cl2, rfl⟩ := sns_of hrows2
  obtain ⟨w2, hv2, hk2⟩ := open_cell (k := .str) Try.underlying9 (hval 2 9 v2 rfl rfl) h2
  cases hk2
  rw [List.length_map] at hlen hlen2
  exact law_calls (P := Try.prog) (fn := Try.f9) (s := Rows.tokenBestSpec) (tb := 4) Try.laidOut (by decide +kernel) (by kernel_rfl) Try.underlying4 rfl rfl rfl rfl hW hw2
    (.cons _ _ _ _ (hv0.mono hle) (.cons _ _ _ _ hv1 (.cons _ _ _ _ (hv2 φ2) .nil))) hro2 (f9_ok (hArr.ext _) hArr2 hlen hlen2 _)
theorem tokenBest_holds : Rows.TokenBestSaid :=
  OpenClaim.holds_of_wide 9 Try.f9 rfl rfl rfl rfl rfl rfl rfl ⟨rfl, rfl, rfl, rfl, rfl⟩ rfl rfl rfl rfl rfl (by kernel_rfl) Try.func9 (by kernel_rfl)
    (of_decide_eq_true (by kernel_rfl)) (by unfold Func.isWrapper; first | (rw [if_pos (by decide +kernel)]; kernel_rfl) | (rw [if_neg (by decide +kernel)]; exact ⟨rfl, rfl⟩))
    (fun os started H enc _ => tokenBest_lifted os started H enc)
end Go.Proofs.Ytiadcabmonbgiaa
#print axioms Go.Proofs.Ytiadcabmonbgiaa.tokenBest_holds
