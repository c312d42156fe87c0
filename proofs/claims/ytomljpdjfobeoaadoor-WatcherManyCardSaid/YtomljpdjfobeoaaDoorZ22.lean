/- WatcherMany, proved. -/
import Derived.Test.YtomljpdjfobeoaaDoorZ21
import Derived.Test.YtomljpdjfobeoaaDoorCards
set_option linter.all false
set_option maxRecDepth 100000
namespace Go.Proofs.YtomljpdjfobeoaaDoor
open Go Go.Ev Go.ChangeShapes Go.WideShapes Go.ChangeAt Go.RowKit
set_option maxRecDepth 100000 in
theorem watcherMany_lifted (os : Os) (started : os.Started) (H : Type) (enc : TypeId × Value → H) :
    ReturnsInHanded {} Tryd.checked os 5 .any (fun w args => (Rows.watcherManySpec.pre enc Tryd.prog Tryd.f5 Rows.watcherManyRow.domain false w args ∧ laidMetH Tryd.prog laid0 w) ∧ sizedMet enc Tryd.prog Tryd.f5 (OpenSpec.ofChange Rows.watcherManySpec) false w args)
      (Rows.watcherManySpec.post enc Tryd.prog Tryd.f5 false true false false) := by
  refine returnsInHanded_of_change_and (C := Tryd.checked) (X := fun w _ => laidMetH Tryd.prog laid0 w) (fun _ _ _ hh h => h.of_heap hh) Tryd.own started (by kernel_rfl) Tryd.func5
    (ChangeSpec.witness_at (enc := enc) (C := Tryd.checked) (os := os) (X := fun w _ => laidMetH Tryd.prog laid0 w) false (laidWorld os) #[.int .u8 0, .int .u8 0] 8 rfl (by kernel_rfl) (by kernel_rfl) (by kernel_rfl) (by kernel_rfl) (by kernel_rfl) (laidWorld_met os _)) ?_
  intro W base args ds gs before hval0 hW hcnd _ hL _
  have hval : ∀ (j : Nat) t v, Tryd.f5.params[j]? = some t → args[j]? = some v → Value.okWide Tryd.prog W .any base t v := hval0
  obtain ⟨p, q, hA0, hV, rfl, hfz, hnd⟩ := id hW
  have hA : DataW.TrodAll enc Tryd.prog W 0 (fun _ => true) true Tryd.f5.params.toList args.toList ds p := hA0
  rw [Tryd.params5] at hA hval
  obtain ⟨v0, vs0, d0, ds0, p0, q0, hargs, rfl, rfl, h0, r0⟩ := trodAll_cons hA
  obtain ⟨v1, vs1, d1, ds1, p1, q1, rfl, rfl, rfl, h1, r1⟩ := trodAll_cons r0
  obtain ⟨rfl, rfl, rfl⟩ := trodAll_nil r1
  obtain rfl : args = #[v0, v1] := by cases args; simp_all
  have hw : WRel Tryd.prog _ noHeap W := noHeap_rel W (rom_of_laid hL)
  have hro := noHeap_ro
  obtain ⟨x, hx, rfl⟩ := open_u8 Tryd.underlying5 (hval 0 5 v0 rfl rfl)
  obtain ⟨y, hy, rfl⟩ := open_u8 Tryd.underlying5 (hval 1 5 v1 rfl rfl)
  exact law_calls (P := Tryd.prog) (fn := Tryd.f5) (s := Rows.watcherManySpec) (tb := 4) Tryd.laidOut (by decide +kernel) (by kernel_rfl) Tryd.underlying4 rfl rfl rfl rfl hW hw
    (.cons _ _ _ _ (.int _ _) (.cons _ _ _ _ (.int _ _) .nil)) hro (f5_ok hx hy)
theorem watcherMany_holds : Rows.WatcherManySaid :=
  OpenClaim.holds_of_wide 5 Tryd.f5 rfl rfl rfl rfl rfl rfl rfl ⟨rfl, rfl, rfl, rfl, rfl⟩ rfl rfl rfl rfl rfl (by kernel_rfl) Tryd.func5 (by kernel_rfl)
    (of_decide_eq_true (by kernel_rfl)) (by unfold Func.isWrapper; first | (rw [if_pos (by decide +kernel)]; kernel_rfl) | (rw [if_neg (by decide +kernel)]; exact ⟨rfl, rfl⟩))
    (fun os started H enc _ => watcherMany_lifted os started H enc)
theorem watcherMany_card : Rows.WatcherManyCardSaid :=
  Claim7.holds_tied_plain_at .later [] [.handle] true (true, "fc9f041fc9623667b7b52a1514fb25a874ebdde2cacd7b665629b22dac3103d4") true
    watcherMany_holds (fun _ h => by cases h) (by kernel_rfl) (fun _ h => by cases h) watcherMany_row_tie rfl ⟨rfl, rfl⟩ (by kernel_rfl) rfl
    (fun f fn hf hfn => by
      obtain rfl : f = 5 := Option.some.inj ((show Tryd.prog.funcNamed "estuary/estuarylaw24.WatcherMany" = some 5 by kernel_rfl).symm.trans hf) |>.symm
      obtain rfl : fn = Tryd.f5 := (Option.some.inj (Tryd.func5.symm.trans hfn)).symm
      exact ⟨by kernel_rfl, fun j t ht => by
        rw [Tryd.params5] at ht
        match j, ht with
        | 0, ht => obtain rfl : t = 5 := (by simpa using ht.symm); exact (show Tryd.prog.wantsStandIn 5 = false by kernel_rfl)
        | 1, ht => obtain rfl : t = 5 := (by simpa using ht.symm); exact (show Tryd.prog.wantsStandIn 5 = false by kernel_rfl)
        | j + 2, ht => simp at ht⟩)
    (by kernel_rfl)
end Go.Proofs.YtomljpdjfobeoaaDoor
#print axioms Go.Proofs.YtomljpdjfobeoaaDoor.watcherMany_card
