/- NodeLacks, proved. -/
import Derived.Test.YtkhaejbkdgbjcaaGreatDoorZ38
import Derived.Test.YtkhaejbkdgbjcaaGreatDoorCards
set_option linter.all false
set_option maxRecDepth 100000
namespace Go.Proofs.YtkhaejbkdgbjcaaGreatDoor
open Go Go.Ev Go.ChangeShapes Go.WideShapes Go.ChangeAt Go.RowKit
set_option maxRecDepth 100000 in
theorem nodeLacks_lifted (os : Os) (started : os.Started) (H : Type) (enc : TypeId × Value → H) :
    ReturnsInHanded {} Tryz.checked os 4 .any (fun w args => (Rows.nodeLacksSpec.pre enc Tryz.prog Tryz.f4 Rows.nodeLacksRow.domain false w args ∧ laidMetH Tryz.prog laid0 w) ∧ sizedMet enc Tryz.prog Tryz.f4 (OpenSpec.ofChange Rows.nodeLacksSpec) false w args)
      (Rows.nodeLacksSpec.post enc Tryz.prog Tryz.f4 false true false false) := by
  refine returnsInHanded_of_change_and (C := Tryz.checked) (X := fun w _ => laidMetH Tryz.prog laid0 w) (fun _ _ _ hh h => h.of_heap hh) Tryz.own started (by kernel_rfl) Tryz.func4
    (ChangeSpec.witness_at (enc := enc) (C := Tryz.checked) (os := os) (X := fun w _ => laidMetH Tryz.prog laid0 w) false (laidWorld os) #[.int .u8 0, .int .u8 0, .int .u8 0] 8 rfl (by kernel_rfl) (by kernel_rfl) (by kernel_rfl) (by kernel_rfl) (by kernel_rfl) (laidWorld_met os _)) ?_
  intro W base args ds gs before hval0 hW hcnd _ hL _
  have hval : ∀ (j : Nat) t v, Tryz.f4.params[j]? = some t → args[j]? = some v → Value.okWide Tryz.prog W .any base t v := hval0
  obtain ⟨p, q, hA0, hV, rfl, hfz, hnd⟩ := id hW
  have hA : DataW.TrodAll enc Tryz.prog W 0 (fun _ => true) true Tryz.f4.params.toList args.toList ds p := hA0
  rw [Tryz.params4] at hA hval
  obtain ⟨v0, vs0, d0, ds0, p0, q0, hargs, rfl, rfl, h0, r0⟩ := trodAll_cons hA
  obtain ⟨v1, vs1, d1, ds1, p1, q1, rfl, rfl, rfl, h1, r1⟩ := trodAll_cons r0
  obtain ⟨v2, vs2, d2, ds2, p2, q2, rfl, rfl, rfl, h2, r2⟩ := trodAll_cons r1
  obtain ⟨rfl, rfl, rfl⟩ := trodAll_nil r2
  obtain rfl : args = #[v0, v1, v2] := by cases args; simp_all
  have hw : WRel Tryz.prog _ noHeap W := noHeap_rel W (rom_of_laid hL)
  have hro := noHeap_ro
  obtain ⟨x0, hx0, rfl⟩ := open_u8 Tryz.underlying5 (hval 0 5 v0 rfl rfl)
  obtain ⟨x1, hx1, rfl⟩ := open_u8 Tryz.underlying5 (hval 1 5 v1 rfl rfl)
  obtain ⟨x2, hx2, rfl⟩ := open_u8 Tryz.underlying5 (hval 2 5 v2 rfl rfl)
  exact law_calls (P := Tryz.prog) (fn := Tryz.f4) (s := Rows.nodeLacksSpec) (tb := 4) Tryz.laidOut (by decide +kernel) (by kernel_rfl) Tryz.underlying4 rfl rfl rfl rfl hW hw
    (.cons _ _ _ _ (.int _ _) (.cons _ _ _ _ (.int _ _) (.cons _ _ _ _ (.int _ _) .nil))) hro (FnOk.lift0 rfl rfl (f4_ok hx0 hx1 hx2))
theorem nodeLacks_holds : Rows.NodeLacksSaid :=
  OpenClaim.holds_of_wide 4 Tryz.f4 rfl rfl rfl rfl rfl rfl rfl ⟨rfl, rfl, rfl, rfl, rfl⟩ rfl rfl rfl rfl rfl (by kernel_rfl) Tryz.func4 (by kernel_rfl)
    (of_decide_eq_true (by kernel_rfl)) (by unfold Func.isWrapper; first | (rw [if_pos (by decide +kernel)]; kernel_rfl) | (rw [if_neg (by decide +kernel)]; exact ⟨rfl, rfl⟩))
    (fun os started H enc _ => nodeLacks_lifted os started H enc)
theorem nodeLacks_card : Rows.NodeLacksCardSaid :=
  Claim7.holds_tied_plain_at .later [] [.handle] true (true, "4ee87a4c94d67ea2aba13396dc0580873e597ed51b7717399966e41dd56fa703") true
    nodeLacks_holds (fun _ h => by cases h) (by kernel_rfl) (fun _ h => by cases h) nodeLacks_row_tie rfl ⟨rfl, rfl⟩ (by kernel_rfl) rfl
    (fun f fn hf hfn => by
      obtain rfl : f = 4 := Option.some.inj ((show Tryz.prog.funcNamed "estuary/estuarylaw19.NodeLacks" = some 4 by kernel_rfl).symm.trans hf) |>.symm
      obtain rfl : fn = Tryz.f4 := (Option.some.inj (Tryz.func4.symm.trans hfn)).symm
      exact ⟨by kernel_rfl, fun j t ht => by
        rw [Tryz.params4] at ht
        match j, ht with
        | 0, ht => obtain rfl : t = 5 := (by simpa using ht.symm); exact (show Tryz.prog.wantsStandIn 5 = false by kernel_rfl)
        | 1, ht => obtain rfl : t = 5 := (by simpa using ht.symm); exact (show Tryz.prog.wantsStandIn 5 = false by kernel_rfl)
        | 2, ht => obtain rfl : t = 5 := (by simpa using ht.symm); exact (show Tryz.prog.wantsStandIn 5 = false by kernel_rfl)
        | j + 3, ht => simp at ht⟩)
    (by kernel_rfl)
end Go.Proofs.YtkhaejbkdgbjcaaGreatDoor
#print axioms Go.Proofs.YtkhaejbkdgbjcaaGreatDoor.nodeLacks_card
