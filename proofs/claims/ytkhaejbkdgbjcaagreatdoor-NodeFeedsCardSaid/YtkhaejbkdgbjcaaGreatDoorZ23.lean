/- NodeFeeds, proved. -/
import Derived.Test.YtkhaejbkdgbjcaaGreatDoorZ22
import Derived.Test.YtkhaejbkdgbjcaaGreatDoorCards
set_option linter.all false
set_option maxRecDepth 100000
namespace Go.Proofs.YtkhaejbkdgbjcaaGreatDoor
open Go Go.Ev Go.ChangeShapes Go.WideShapes Go.ChangeAt Go.RowKit
set_option maxRecDepth 100000 in
theorem nodeFeeds_lifted (os : Os) (started : os.Started) (H : Type) (enc : TypeId × Value → H) :
    ReturnsInHanded {} Tryz.checked os 6 .any (fun w args => (Rows.nodeFeedsSpec.pre enc Tryz.prog Tryz.f6 Rows.nodeFeedsRow.domain false w args ∧ laidMetH Tryz.prog laid0 w) ∧ sizedMet enc Tryz.prog Tryz.f6 (OpenSpec.ofChange Rows.nodeFeedsSpec) false w args)
      (Rows.nodeFeedsSpec.post enc Tryz.prog Tryz.f6 false true false false) := by
  refine returnsInHanded_of_change_and (C := Tryz.checked) (X := fun w _ => laidMetH Tryz.prog laid0 w) (fun _ _ _ hh h => h.of_heap hh) Tryz.own started (by kernel_rfl) Tryz.func6
    (ChangeSpec.witness_at (enc := enc) (C := Tryz.checked) (os := os) (X := fun w _ => laidMetH Tryz.prog laid0 w) false (laidWorld os) #[.int .u8 0, .int .u8 0, .int .u8 0, .int .u8 0] 8 rfl (by kernel_rfl) (by kernel_rfl) (by kernel_rfl) (by kernel_rfl) (by kernel_rfl) (laidWorld_met os _)) ?_
  intro W base args ds gs before hval0 hW hcnd _ hL _
  have hval : ∀ (j : Nat) t v, Tryz.f6.params[j]? = some t → args[j]? = some v → Value.okWide Tryz.prog W .any base t v := hval0
  obtain ⟨p, q, hA0, hV, rfl, hfz, hnd⟩ := id hW
  have hA : DataW.TrodAll enc Tryz.prog W 0 (fun _ => true) true Tryz.f6.params.toList args.toList ds p := hA0
  rw [Tryz.params6] at hA hval
  obtain ⟨v0, vs0, d0, ds0, p0, q0, hargs, rfl, rfl, h0, r0⟩ := trodAll_cons hA
  obtain ⟨v1, vs1, d1, ds1, p1, q1, rfl, rfl, rfl, h1, r1⟩ := trodAll_cons r0
  obtain ⟨v2, vs2, d2, ds2, p2, q2, rfl, rfl, rfl, h2, r2⟩ := trodAll_cons r1
  obtain ⟨v3, vs3, d3, ds3, p3, q3, rfl, rfl, rfl, h3, r3⟩ := trodAll_cons r2
  obtain ⟨rfl, rfl, rfl⟩ := trodAll_nil r3
  obtain rfl : args = #[v0, v1, v2, v3] := by cases args; simp_all
  have hw : WRel Tryz.prog _ noHeap W := noHeap_rel W (rom_of_laid hL)
  have hro := noHeap_ro
  obtain ⟨x0, hx0, rfl⟩ := open_u8 Tryz.underlying5 (hval 0 5 v0 rfl rfl)
  obtain ⟨x1, hx1, rfl⟩ := open_u8 Tryz.underlying5 (hval 1 5 v1 rfl rfl)
  obtain ⟨x2, hx2, rfl⟩ := open_u8 Tryz.underlying5 (hval 2 5 v2 rfl rfl)
  obtain ⟨x3, hx3, rfl⟩ := open_u8 Tryz.underlying5 (hval 3 5 v3 rfl rfl)
  exact law_calls (P := Tryz.prog) (fn := Tryz.f6) (s := Rows.nodeFeedsSpec) (tb := 4) Tryz.laidOut (by decide +kernel) (by kernel_rfl) Tryz.underlying4 rfl rfl rfl rfl hW hw
    (.cons _ _ _ _ (.int _ _) (.cons _ _ _ _ (.int _ _) (.cons _ _ _ _ (.int _ _) (.cons _ _ _ _ (.int _ _) .nil)))) hro (FnOk.lift0 rfl rfl (f6_ok hx0 hx1 hx2 hx3))
theorem nodeFeeds_holds : Rows.NodeFeedsSaid :=
  OpenClaim.holds_of_wide 6 Tryz.f6 rfl rfl rfl rfl rfl rfl rfl ⟨rfl, rfl, rfl, rfl, rfl⟩ rfl rfl rfl rfl rfl (by kernel_rfl) Tryz.func6 (by kernel_rfl)
    (of_decide_eq_true (by kernel_rfl)) (by unfold Func.isWrapper; first | (rw [if_pos (by decide +kernel)]; kernel_rfl) | (rw [if_neg (by decide +kernel)]; exact ⟨rfl, rfl⟩))
    (fun os started H enc _ => nodeFeeds_lifted os started H enc)
theorem nodeFeeds_card : Rows.NodeFeedsCardSaid :=
  Claim7.holds_tied_plain_at .later [] [.handle] true (true, "4ee87a4c94d67ea2aba13396dc0580873e597ed51b7717399966e41dd56fa703") true
    nodeFeeds_holds (fun _ h => by cases h) (by kernel_rfl) (fun _ h => by cases h) nodeFeeds_row_tie rfl ⟨rfl, rfl⟩ (by kernel_rfl) rfl
    (fun f fn hf hfn => by
      obtain rfl : f = 6 := Option.some.inj ((show Tryz.prog.funcNamed "estuary/estuarylaw19.NodeFeeds" = some 6 by kernel_rfl).symm.trans hf) |>.symm
      obtain rfl : fn = Tryz.f6 := (Option.some.inj (Tryz.func6.symm.trans hfn)).symm
      exact ⟨by kernel_rfl, fun j t ht => by
        rw [Tryz.params6] at ht
        match j, ht with
        | 0, ht => obtain rfl : t = 5 := (by simpa using ht.symm); exact (show Tryz.prog.wantsStandIn 5 = false by kernel_rfl)
        | 1, ht => obtain rfl : t = 5 := (by simpa using ht.symm); exact (show Tryz.prog.wantsStandIn 5 = false by kernel_rfl)
        | 2, ht => obtain rfl : t = 5 := (by simpa using ht.symm); exact (show Tryz.prog.wantsStandIn 5 = false by kernel_rfl)
        | 3, ht => obtain rfl : t = 5 := (by simpa using ht.symm); exact (show Tryz.prog.wantsStandIn 5 = false by kernel_rfl)
        | j + 4, ht => simp at ht⟩)
    (by kernel_rfl)
end Go.Proofs.YtkhaejbkdgbjcaaGreatDoor
#print axioms Go.Proofs.YtkhaejbkdgbjcaaGreatDoor.nodeFeeds_card
