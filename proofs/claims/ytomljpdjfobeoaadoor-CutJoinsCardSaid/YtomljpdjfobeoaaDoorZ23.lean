/- cut: CutJoins, proved. -/
import Derived.Test.YtomljpdjfobeoaaDoorZ22
import Derived.Test.YtomljpdjfobeoaaDoorCards
set_option linter.all false
set_option maxRecDepth 100000
namespace Go.Proofs.YtomljpdjfobeoaaDoor
open Go Go.Ev Go.ChangeShapes Go.WideShapes Go.ChangeAt Go.RowKit
set_option maxRecDepth 100000 in
theorem cutJoins_lifted (os : Os) (started : os.Started) (H : Type) (enc : TypeId × Value → H) :
    ReturnsInHanded {} Tryd.checked os 6 .any (fun w args => (Rows.cutJoinsSpec.pre enc Tryd.prog Tryd.f6 Rows.cutJoinsRow.domain false w args ∧ laidMetH Tryd.prog laid0 w) ∧ sizedMet enc Tryd.prog Tryd.f6 (OpenSpec.ofChange Rows.cutJoinsSpec) false w args)
      (Rows.cutJoinsSpec.post enc Tryd.prog Tryd.f6 false true false false) := by
  refine returnsInHanded_of_change_and (C := Tryd.checked) (X := fun w _ => laidMetH Tryd.prog laid0 w) (fun _ _ _ hh h => h.of_heap hh) Tryd.own started (by kernel_rfl) Tryd.func6
    (ChangeSpec.witness_at (enc := enc) (C := Tryd.checked) (os := os) (X := fun w _ => laidMetH Tryd.prog laid0 w) false (laidWorld os) #[.agg #[.int .i64 0, .int .i64 0, .string ByteArray.empty, .string ByteArray.empty, .bool false, .slice none 0 0, .slice none 0 0, .slice none 0 0], .string ByteArray.empty] 8 rfl (by kernel_rfl) (by kernel_rfl) (by kernel_rfl) (by kernel_rfl) (by kernel_rfl) (laidWorld_met os _)) ?_
  intro W base args ds gs before hval0 hW hcnd _ hL _
  have hval : ∀ (j : Nat) t v, Tryd.f6.params[j]? = some t → args[j]? = some v → Value.okWide Tryd.prog W .any base t v := hval0
  obtain ⟨p, q, hA0, hV, rfl, hfz, hnd⟩ := id hW
  have hA : DataW.TrodAll enc Tryd.prog W 0 (fun _ => true) true Tryd.f6.params.toList args.toList ds p := hA0
  rw [Tryd.params6] at hA hval
  obtain ⟨v0, vs0, d0, ds0, p0, q0, hargs, rfl, rfl, h0, r0⟩ := trodAll_cons hA
  obtain ⟨v1, vs1, d1, ds1, p1, q1, rfl, rfl, rfl, h1, r1⟩ := trodAll_cons r0
  obtain ⟨rfl, rfl, rfl⟩ := trodAll_nil r1
  obtain rfl : args = #[v0, v1] := by cases args; simp_all
  obtain ⟨φ, l, row, hw, hro, hle, hv0, s, rfl, hs⟩ := Opens.givenS Tryd.underlying66 opens_sh (hval 0 66 v0 rfl rfl) h0 (noHeap_rel W (rom_of_laid hL)) noHeap_ro
  obtain ⟨w1, hv1, hk1⟩ := open_cell (k := .str) Tryd.underlying9 (hval 1 9 v1 rfl rfl) h1
  obtain ⟨k, rfl⟩ := hk1.str_of
  exact law_calls (P := Tryd.prog) (fn := Tryd.f6) (s := Rows.cutJoinsSpec) (tb := 4) Tryd.laidOut (by decide +kernel) (by kernel_rfl) Tryd.underlying4 rfl rfl rfl rfl hW hw
    (.cons _ _ _ _ hv0 (.cons _ _ _ _ (hv1 φ) .nil)) hro (f6_ok hs k)
theorem cutJoins_holds : Rows.CutJoinsSaid :=
  OpenClaim.holds_of_wide 6 Tryd.f6 rfl rfl rfl rfl rfl rfl rfl ⟨rfl, rfl, rfl, rfl, rfl⟩ rfl rfl rfl rfl rfl (by kernel_rfl) Tryd.func6 (by kernel_rfl)
    (of_decide_eq_true (by kernel_rfl)) (by unfold Func.isWrapper; first | (rw [if_pos (by decide +kernel)]; kernel_rfl) | (rw [if_neg (by decide +kernel)]; exact ⟨rfl, rfl⟩))
    (fun os started H enc _ => cutJoins_lifted os started H enc)
theorem cutJoins_card : Rows.CutJoinsCardSaid :=
  Claim7.holds_tied_plain_at .later [] [.handle] true (true, "fc9f041fc9623667b7b52a1514fb25a874ebdde2cacd7b665629b22dac3103d4") true
    cutJoins_holds (fun _ h => by cases h) (by kernel_rfl) (fun _ h => by cases h) cutJoins_row_tie rfl ⟨rfl, rfl⟩ (by kernel_rfl) rfl
    (fun f fn hf hfn => by
      obtain rfl : f = 6 := Option.some.inj ((show Tryd.prog.funcNamed "estuary/estuarylaw17.CutJoins" = some 6 by kernel_rfl).symm.trans hf) |>.symm
      obtain rfl : fn = Tryd.f6 := (Option.some.inj (Tryd.func6.symm.trans hfn)).symm
      exact ⟨by kernel_rfl, fun j t ht => by
        rw [Tryd.params6] at ht
        have h3 : t = 66 ∨ t = 9 := by
          rcases j with _ | _ | j
          · exact .inl (by simpa using ht.symm)
          · exact .inr (by simpa using ht.symm)
          · simp at ht
        rcases h3 with rfl | rfl
        · exact (show Tryd.prog.wantsStandIn 66 = false by kernel_rfl)
        · exact (show Tryd.prog.wantsStandIn 9 = false by kernel_rfl)⟩)
    (by kernel_rfl)
end Go.Proofs.YtomljpdjfobeoaaDoor
#print axioms Go.Proofs.YtomljpdjfobeoaaDoor.cutJoins_card
