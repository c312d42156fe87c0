/- CutTells, proved. -/
import Derived.Test.YtomljpdjfobeoaaGreatDoorZ24
import Derived.Test.YtomljpdjfobeoaaGreatDoorCards
set_option linter.all false
set_option maxRecDepth 100000
namespace Go.Proofs.YtomljpdjfobeoaaGreatDoor
open Go Go.Ev Go.ChangeShapes Go.WideShapes Go.ChangeAt Go.RowKit
set_option maxRecDepth 100000 in
theorem cutTells_lifted (os : Os) (started : os.Started) (H : Type) (enc : TypeId × Value → H) :
    ReturnsInHanded {} Tryz.checked os 3 .any (fun w args => (Rows.cutTellsSpec.pre enc Tryz.prog Tryz.f3 Rows.cutTellsRow.domain false w args ∧ laidMetH Tryz.prog laid0 w) ∧ sizedMet enc Tryz.prog Tryz.f3 (OpenSpec.ofChange Rows.cutTellsSpec) false w args)
      (Rows.cutTellsSpec.post enc Tryz.prog Tryz.f3 false true false false) := by
  refine returnsInHanded_of_change_and (C := Tryz.checked) (X := fun w _ => laidMetH Tryz.prog laid0 w) (fun _ _ _ hh h => h.of_heap hh) Tryz.own started (by kernel_rfl) Tryz.func3
    (ChangeSpec.witness_at (enc := enc) (C := Tryz.checked) (os := os) (X := fun w _ => laidMetH Tryz.prog laid0 w) false (laidWorld os) #[.agg #[.int .i64 0, .int .i64 0, .string ByteArray.empty, .string ByteArray.empty, .bool false, .slice none 0 0, .slice none 0 0, .slice none 0 0], .agg #[.int .i64 0, .int .i64 0, .string ByteArray.empty, .string ByteArray.empty, .bool false, .slice none 0 0, .slice none 0 0, .slice none 0 0], .string ByteArray.empty, .int .i64 0, .int .i64 0] 8 rfl (by kernel_rfl) (by kernel_rfl) (by kernel_rfl) (by kernel_rfl) (by kernel_rfl) (laidWorld_met os _)) ?_
  intro W base args ds gs before hval0 hW hcnd _ hL _
  have hval : ∀ (j : Nat) t v, Tryz.f3.params[j]? = some t → args[j]? = some v → Value.okWide Tryz.prog W .any base t v := hval0
  obtain ⟨p, q, hA0, hV, rfl, hfz, hnd⟩ := id hW
  have hA : DataW.TrodAll enc Tryz.prog W 0 (fun _ => true) true Tryz.f3.params.toList args.toList ds p := hA0
  rw [Tryz.params3] at hA hval
  obtain ⟨v0, vs0, d0, ds0, p0, q0, hargs, rfl, rfl, h0, r0⟩ := trodAll_cons hA
  obtain ⟨v1, vs1, d1, ds1, p1, q1, rfl, rfl, rfl, h1, r1⟩ := trodAll_cons r0
  obtain ⟨v2, vs2, d2, ds2, p2, q2, rfl, rfl, rfl, h2, r2⟩ := trodAll_cons r1
  obtain ⟨v3, vs3, d3, ds3, p3, q3, rfl, rfl, rfl, h3, r3⟩ := trodAll_cons r2
  obtain ⟨v4, vs4, d4, ds4, p4, q4, rfl, rfl, rfl, h4, r4⟩ := trodAll_cons r3
  obtain ⟨rfl, rfl, rfl⟩ := trodAll_nil r4
  obtain rfl : args = #[v0, v1, v2, v3, v4] := by cases args; simp_all
  obtain ⟨φ, l, row, hw, hro, _, hv0, s, rfl, hs⟩ := Opens.givenS Tryz.underlying28 opens_sh (hval 0 28 v0 rfl rfl) h0 (noHeap_rel W (rom_of_laid hL)) noHeap_ro
  obtain ⟨φ2, l2, row2, hw2, hro2, hle, hv1, t, rfl, ht⟩ := Opens.givenS Tryz.underlying28 opens_sh (hval 1 28 v1 rfl rfl) h1 hw hro
  obtain ⟨w2, hv2, hk2⟩ := open_cell (k := .str) Tryz.underlying9 (hval 2 9 v2 rfl rfl) h2
  obtain ⟨k, rfl⟩ := hk2.str_of
  obtain ⟨w3, hv3, hk3⟩ := open_cell (k := .int .i64) Tryz.underlying3 (hval 3 3 v3 rfl rfl) h3
  obtain ⟨a, rfl⟩ := hk3.int_of
  obtain ⟨w4, hv4, hk4⟩ := open_cell (k := .int .i64) Tryz.underlying3 (hval 4 3 v4 rfl rfl) h4
  obtain ⟨b, rfl⟩ := hk4.int_of
  replace hw := hw2
  replace hro := hro2
  exact law_calls (P := Tryz.prog) (fn := Tryz.f3) (s := Rows.cutTellsSpec) (tb := 4) Tryz.laidOut (by decide +kernel) (by kernel_rfl) Tryz.underlying4 rfl rfl rfl rfl hW hw
    (.cons _ _ _ _ (hv0.mono hle) (.cons _ _ _ _ hv1 (.cons _ _ _ _ (hv2 φ2) (.cons _ _ _ _ (hv3 φ2) (.cons _ _ _ _ (hv4 φ2) .nil))))) hro (f3_ok (hs.ext _) ht k a b)
theorem cutTells_holds : Rows.CutTellsSaid :=
  OpenClaim.holds_of_wide 3 Tryz.f3 rfl rfl rfl rfl rfl rfl rfl ⟨rfl, rfl, rfl, rfl, rfl⟩ rfl rfl rfl rfl rfl (by kernel_rfl) Tryz.func3 (by kernel_rfl)
    (of_decide_eq_true (by kernel_rfl)) (by unfold Func.isWrapper; first | (rw [if_pos (by decide +kernel)]; kernel_rfl) | (rw [if_neg (by decide +kernel)]; exact ⟨rfl, rfl⟩))
    (fun os started H enc _ => cutTells_lifted os started H enc)
theorem cutTells_card : Rows.CutTellsCardSaid :=
  Claim7.holds_tied_plain_at .later [] [.handle] true (true, "3cf6067e3ad2883650bb217490bf7562dacb71953a76982385b1ec95901d9eec") true
    cutTells_holds (fun _ h => by cases h) (by kernel_rfl) (fun _ h => by cases h) cutTells_row_tie rfl ⟨rfl, rfl⟩ (by kernel_rfl) rfl
    (fun f fn hf hfn => by
      obtain rfl : f = 3 := Option.some.inj ((show Tryz.prog.funcNamed "estuary/estuarylaw17.CutTells" = some 3 by kernel_rfl).symm.trans hf) |>.symm
      obtain rfl : fn = Tryz.f3 := (Option.some.inj (Tryz.func3.symm.trans hfn)).symm
      exact ⟨by kernel_rfl, fun j t ht => by
        rw [Tryz.params3] at ht
        match j, ht with
        | 0, ht => obtain rfl : t = 28 := (by simpa using ht.symm); exact (show Tryz.prog.wantsStandIn 28 = false by kernel_rfl)
        | 1, ht => obtain rfl : t = 28 := (by simpa using ht.symm); exact (show Tryz.prog.wantsStandIn 28 = false by kernel_rfl)
        | 2, ht => obtain rfl : t = 9 := (by simpa using ht.symm); exact (show Tryz.prog.wantsStandIn 9 = false by kernel_rfl)
        | 3, ht => obtain rfl : t = 3 := (by simpa using ht.symm); exact (show Tryz.prog.wantsStandIn 3 = false by kernel_rfl)
        | 4, ht => obtain rfl : t = 3 := (by simpa using ht.symm); exact (show Tryz.prog.wantsStandIn 3 = false by kernel_rfl)
        | j + 5, ht => simp at ht⟩)
    (by kernel_rfl)
end Go.Proofs.YtomljpdjfobeoaaGreatDoor
#print axioms Go.Proofs.YtomljpdjfobeoaaGreatDoor.cutTells_card
