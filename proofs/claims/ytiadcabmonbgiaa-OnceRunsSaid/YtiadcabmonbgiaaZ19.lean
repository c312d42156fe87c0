/- once: the law of requests of sessions that rise, proved. -/
import Derived.Test.YtiadcabmonbgiaaZ18
import Derived.Test.YtiadcabmonbgiaaRows
set_option linter.all false
set_option maxRecDepth 100000
namespace Go.Proofs
open Go Go.Ev
theorem byte_of {v : AV} (h : KOf (.int .u8) v) : ∃ k : Nat, v = .int .u8 (k : Int) ∧ k < 256 := by
  cases h
  rename_i n h
  simp only [Lit.wf, Bool.and_eq_true, decide_eq_true_eq] at h
  have h1 : 0 ≤ n := h.1
  have h2 : n ≤ 255 := h.2
  exact ⟨n.toNat, by rw [Int.toNat_of_nonneg h1], by omega⟩
theorem bytes_of : ∀ {rows : List (List AV)}, (∀ r ∈ rows, RowOf [.int .u8] r) → ∃ l : List Nat, (rows = l.map fun (k : Nat) => [AV.int .u8 (k : Int)]) ∧ ∀ k ∈ l, k < 256
  | [], _ => ⟨[], rfl, by simp⟩
  | r :: rows, h => by
    obtain ⟨a, rfl, ha⟩ := row1 (h r (by simp))
    obtain ⟨k, rfl, hk⟩ := byte_of ha
    obtain ⟨l, rfl, hl⟩ := bytes_of (rows := rows) fun x hx => h x (by simp [hx])
    exact ⟨k :: l, rfl, by simpa using ⟨hk, hl⟩⟩
end Go.Proofs
namespace Go.Proofs.Ytiadcabmonbgiaa
open Go Go.Ev Go.ChangeShapes Go.WideShapes Go.ChangeAt Go.RowKit
set_option maxRecDepth 100000 in
theorem onceRuns_lifted (os : Os) (started : os.Started) (H : Type) (enc : TypeId × Value → H) :
    ReturnsInHanded {} Try.checked os 8 .any (Rows.onceRunsSpec.pre6 enc Try.prog Try.f8 Rows.onceRunsRow.domain false) (Rows.onceRunsSpec.post enc Try.prog Try.f8 false true false false) := by
  refine returnsInHanded_of_change (C := Try.checked) Try.own started (by kernel_rfl) Try.func8
    (ChangeSpec.witness6 (enc := enc) (C := Try.checked) false ⟨#[], #[.slice none 0 0, .int .u8 0], []⟩ 8 (by kernel_rfl) (by kernel_rfl) (by kernel_rfl) (by kernel_rfl)) ?_
  intro W base args ds gs before hval0 hW hcnd _
  have hval : ∀ (j : Nat) t v, Try.f8.params[j]? = some t → args[j]? = some v → Value.okWide Try.prog W .any base t v := hval0
  obtain ⟨p, q, hA0, hV, rfl, hfz, hnd⟩ := id hW
  have hA : DataW.TrodAll enc Try.prog W 0 (fun _ => true) true Try.f8.params.toList args.toList ds p := hA0
  rw [Try.params8] at hA hval
  obtain ⟨v0, vs0, d0, ds0, p0, q0, hargs, rfl, rfl, h0, r0⟩ := trodAll_cons hA
  obtain ⟨v1, vs1, d1, ds1, p1, q1, rfl, rfl, rfl, h1, r1⟩ := trodAll_cons r0
  obtain ⟨rfl, rfl, rfl⟩ := trodAll_nil r1
  obtain rfl : args = #[v0, v1] := by cases args; simp_all
  obtain ⟨φ, l, av, xs, hw, hro, _, hv0, hArr, hrows, hlen⟩ := open_rows Try.underlying41 (ks := [.int .u8]) (by decide) (by kernel_rfl) (fun n cs x hx => open_one Try.underlying5 hx) (hval 0 41 v0 rfl rfl) h0 (noHeap_rel W) noHeap_ro
  obtain ⟨ks, rfl, hks⟩ := bytes_of hrows
  obtain ⟨w1, hv1, hk1⟩ := open_cell (k := .int .u8) Try.underlying5 (hval 1 5 v1 rfl rfl) h1
  obtain ⟨a, rfl, ha⟩ := byte_of hk1
  exact law_calls (P := Try.prog) (fn := Try.f8) (s := Rows.onceRunsSpec) (tb := 4) Try.laidOut (by decide +kernel) (by kernel_rfl) Try.underlying4 rfl rfl rfl rfl hW hw
    (.cons _ _ _ _ hv0 (.cons _ _ _ _ (hv1 φ) .nil)) hro (f8_ok hArr hks ha)
theorem onceRuns_holds : Rows.OnceRunsSaid :=
  OpenClaim.holds_of_wide 8 Try.f8 rfl rfl rfl rfl rfl rfl rfl ⟨rfl, rfl, rfl, rfl, rfl⟩ rfl rfl rfl rfl rfl (by kernel_rfl) Try.func8 (by kernel_rfl)
    (of_decide_eq_true (by kernel_rfl)) (by unfold Func.isWrapper; first | (rw [if_pos (by decide +kernel)]; kernel_rfl) | (rw [if_neg (by decide +kernel)]; exact ⟨rfl, rfl⟩))
    (fun os started H enc _ => onceRuns_lifted os started H enc)
end Go.Proofs.Ytiadcabmonbgiaa
#print axioms Go.Proofs.Ytiadcabmonbgiaa.onceRuns_holds
