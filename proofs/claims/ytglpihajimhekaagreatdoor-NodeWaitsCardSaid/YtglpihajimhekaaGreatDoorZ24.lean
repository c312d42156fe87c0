/- NodeWaits, proved. -/
import Derived.Test.YtglpihajimhekaaGreatDoorZ23
import Derived.Test.YtglpihajimhekaaGreatDoorCards
set_option linter.all false
set_option maxRecDepth 100000
namespace Go.Proofs.YtglpihajimhekaaGreatDoor
open Go Go.Ev Go.ChangeShapes Go.WideShapes Go.ChangeAt Go.RowKit
set_option maxRecDepth 100000 in
theorem nodeWaits_lifted (os : Os) (started : os.Started) (H : Type) (enc : TypeId × Value → H) :
    ReturnsInHanded {} Tryz.checked os 4 .any (fun w args => (Rows.nodeWaitsSpec.pre enc Tryz.prog Tryz.f4 Rows.nodeWaitsRow.domain false w args ∧ laidMetH Tryz.prog laid0 w) ∧ sizedMet enc Tryz.prog Tryz.f4 (OpenSpec.ofChange Rows.nodeWaitsSpec) false w args)
      (Rows.nodeWaitsSpec.post enc Tryz.prog Tryz.f4 false true false false) := by
  refine returnsInHanded_of_change_and (C := Tryz.checked) (X := fun w _ => laidMetH Tryz.prog laid0 w) (fun _ _ _ hh h => h.of_heap hh) Tryz.own started (by kernel_rfl) Tryz.func4
    (ChangeSpec.witness_at (enc := enc) (C := Tryz.checked) (os := os) (X := fun w _ => laidMetH Tryz.prog laid0 w) false (laidWorld os) #[.slice none 0 0] 8 rfl (by kernel_rfl) (by kernel_rfl) (by kernel_rfl) (by kernel_rfl) (by kernel_rfl) (laidWorld_met os _)) ?_
  intro W base args ds gs before hval0 hW hcnd _ hL _
  have hval : ∀ (j : Nat) t v, Tryz.f4.params[j]? = some t → args[j]? = some v → Value.okWide Tryz.prog W .any base t v := hval0
  obtain ⟨p, q, hA0, hV, rfl, hfz, hnd⟩ := id hW
  have hA : DataW.TrodAll enc Tryz.prog W 0 (fun _ => true) true Tryz.f4.params.toList args.toList ds p := hA0
  rw [Tryz.params4] at hA hval
  obtain ⟨v0, vs0, d0, ds0, p0, q0, hargs, rfl, rfl, h0, r0⟩ := trodAll_cons hA
  obtain ⟨rfl, rfl, rfl⟩ := trodAll_nil r0
  obtain rfl : args = #[v0] := by cases args; simp_all
  have hw0 : WRel Tryz.prog _ noHeap W := noHeap_rel W (rom_of_laid hL)
  have hro0 := noHeap_ro
  obtain ⟨φ, l, av, xs, hw, hro, hle, hv1, hArr, hrows, hlen⟩ := open_rows Tryz.underlying22 (ks := [.int .u8]) (by decide) (by kernel_rfl) (fun n cs x hx => open_one (k := .int .u8) Tryz.underlying5 hx) (hval 0 22 v0 rfl rfl) h0 hw0 hro0
  obtain ⟨ks, rfl, hk⟩ := bytes_of hrows
  exact law_calls (P := Tryz.prog) (fn := Tryz.f4) (s := Rows.nodeWaitsSpec) (tb := 4) Tryz.laidOut (by decide +kernel) (by kernel_rfl) Tryz.underlying4 rfl rfl rfl rfl hW hw
    (.cons _ _ _ _ hv1 .nil) hro (FnOk.ro hro rfl (f4_ok hw.top hArr hk (by simpa using hlen)))
theorem nodeWaits_holds : Rows.NodeWaitsSaid :=
  OpenClaim.holds_of_wide 4 Tryz.f4 rfl rfl rfl rfl rfl rfl rfl ⟨rfl, rfl, rfl, rfl, rfl⟩ rfl rfl rfl rfl rfl (by kernel_rfl) Tryz.func4 (by kernel_rfl)
    (of_decide_eq_true (by kernel_rfl)) (by unfold Func.isWrapper; first | (rw [if_pos (by decide +kernel)]; kernel_rfl) | (rw [if_neg (by decide +kernel)]; exact ⟨rfl, rfl⟩))
    (fun os started H enc _ => nodeWaits_lifted os started H enc)
theorem nodeWaits_card : Rows.NodeWaitsCardSaid :=
  Claim7.holds_tied_plain_at .later [] [.handle] true (true, "0e9618a90dc4a223acef1df54becf7dae7513b4920495d46bbfafb6cc809e8a7") true
    nodeWaits_holds (fun _ h => by cases h) (by kernel_rfl) (fun _ h => by cases h) nodeWaits_row_tie rfl ⟨rfl, rfl⟩ (by kernel_rfl) rfl
    (fun f fn hf hfn => by
      obtain rfl : f = 4 := Option.some.inj ((show Tryz.prog.funcNamed "estuary/estuarylaw19.NodeWaits" = some 4 by kernel_rfl).symm.trans hf) |>.symm
      obtain rfl : fn = Tryz.f4 := (Option.some.inj (Tryz.func4.symm.trans hfn)).symm
      exact ⟨by kernel_rfl, fun j t ht => by
        rw [Tryz.params4] at ht
        match j, ht with
        | 0, ht => obtain rfl : t = 22 := (by simpa using ht.symm); exact (show Tryz.prog.wantsStandIn 22 = false by kernel_rfl)
        | j + 1, ht => simp at ht⟩)
    (by kernel_rfl)
end Go.Proofs.YtglpihajimhekaaGreatDoor
#print axioms Go.Proofs.YtglpihajimhekaaGreatDoor.nodeWaits_card
