/- ShardKeys, proved. -/
import Derived.Test.YtomljpdjfobeoaaGreatDoorZ25
import Derived.Test.YtomljpdjfobeoaaGreatDoorCards
set_option linter.all false
set_option maxRecDepth 100000
namespace Go.Proofs.YtomljpdjfobeoaaGreatDoor
open Go Go.Ev Go.ChangeShapes Go.WideShapes Go.ChangeAt Go.RowKit
set_option maxRecDepth 100000 in
theorem shardKeys_lifted (os : Os) (started : os.Started) (H : Type) (enc : TypeId × Value → H) :
    ReturnsInHanded {} Tryz.checked os 5 .any (fun w args => (Rows.shardKeysSpec.pre enc Tryz.prog Tryz.f5 Rows.shardKeysRow.domain false w args ∧ laidMetH Tryz.prog laid0 w) ∧ sizedMet enc Tryz.prog Tryz.f5 (OpenSpec.ofChange Rows.shardKeysSpec) false w args)
      (Rows.shardKeysSpec.post enc Tryz.prog Tryz.f5 false true false false) := by
  refine returnsInHanded_of_change_and (C := Tryz.checked) (X := fun w _ => laidMetH Tryz.prog laid0 w) (fun _ _ _ hh h => h.of_heap hh) Tryz.own started (by kernel_rfl) Tryz.func5
    (ChangeSpec.witness_at (enc := enc) (C := Tryz.checked) (os := os) (X := fun w _ => laidMetH Tryz.prog laid0 w) false (laidWorld os) #[.slice none 0 0] 8 rfl (by kernel_rfl) (by kernel_rfl) (by kernel_rfl) (by kernel_rfl) (by kernel_rfl) (laidWorld_met os _)) ?_
  intro W base args ds gs before hval0 hW hcnd _ hL _
  have hval : ∀ (j : Nat) t v, Tryz.f5.params[j]? = some t → args[j]? = some v → Value.okWide Tryz.prog W .any base t v := hval0
  obtain ⟨p, q, hA0, hV, rfl, hfz, hnd⟩ := id hW
  have hA : DataW.TrodAll enc Tryz.prog W 0 (fun _ => true) true Tryz.f5.params.toList args.toList ds p := hA0
  rw [Tryz.params5] at hA hval
  obtain ⟨v0, vs0, d0, ds0, p0, q0, hargs, rfl, rfl, h0, r0⟩ := trodAll_cons hA
  obtain ⟨rfl, rfl, rfl⟩ := trodAll_nil r0
  obtain rfl : args = #[v0] := by cases args; simp_all
  have hw0 : WRel Tryz.prog _ noHeap W := noHeap_rel W (rom_of_laid hL)
  have hro0 := noHeap_ro
  obtain ⟨φ, l, av, xs, hw, hro, hle, hv1, hArr, hrows, hlen⟩ := Opens.given Tryz.underlying54 (by kernel_rfl) (by decide) opens_step (hval 0 54 v0 rfl rfl) h0 hw0 hro0
  obtain ⟨sl, rfl, hsl⟩ := rows_st hrows
  exact law_calls (P := Tryz.prog) (fn := Tryz.f5) (s := Rows.shardKeysSpec) (tb := 4) Tryz.laidOut (by decide +kernel) (by kernel_rfl) Tryz.underlying4 rfl rfl rfl rfl hW hw
    (.cons _ _ _ _ hv1 .nil) hro (f5_ok hArr hsl (by simpa using hlen))
theorem shardKeys_holds : Rows.ShardKeysSaid :=
  OpenClaim.holds_of_wide 5 Tryz.f5 rfl rfl rfl rfl rfl rfl rfl ⟨rfl, rfl, rfl, rfl, rfl⟩ rfl rfl rfl rfl rfl (by kernel_rfl) Tryz.func5 (by kernel_rfl)
    (of_decide_eq_true (by kernel_rfl)) (by unfold Func.isWrapper; first | (rw [if_pos (by decide +kernel)]; kernel_rfl) | (rw [if_neg (by decide +kernel)]; exact ⟨rfl, rfl⟩))
    (fun os started H enc _ => shardKeys_lifted os started H enc)
theorem shardKeys_card : Rows.ShardKeysCardSaid :=
  Claim7.holds_tied_plain_at .later [] [.handle] true (true, "3cf6067e3ad2883650bb217490bf7562dacb71953a76982385b1ec95901d9eec") true
    shardKeys_holds (fun _ h => by cases h) (by kernel_rfl) (fun _ h => by cases h) shardKeys_row_tie rfl ⟨rfl, rfl⟩ (by kernel_rfl) rfl
    (fun f fn hf hfn => by
      obtain rfl : f = 5 := Option.some.inj ((show Tryz.prog.funcNamed "estuary/estuarylaw15.ShardKeys" = some 5 by kernel_rfl).symm.trans hf) |>.symm
      obtain rfl : fn = Tryz.f5 := (Option.some.inj (Tryz.func5.symm.trans hfn)).symm
      exact ⟨by kernel_rfl, fun j t ht => by
        rw [Tryz.params5] at ht
        match j, ht with
        | 0, ht => obtain rfl : t = 54 := (by simpa using ht.symm); exact (show Tryz.prog.wantsStandIn 54 = false by kernel_rfl)
        | j + 1, ht => simp at ht⟩)
    (by kernel_rfl)
end Go.Proofs.YtomljpdjfobeoaaGreatDoor
#print axioms Go.Proofs.YtomljpdjfobeoaaGreatDoor.shardKeys_card
