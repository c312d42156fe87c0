/- CutKeys, proved. -/
import Derived.Test.YtomljpdjfobeoaaDoorZ22
import Derived.Test.YtomljpdjfobeoaaDoorCards
set_option linter.all false
set_option maxRecDepth 100000
namespace Go.Proofs.YtomljpdjfobeoaaDoor
open Go Go.Ev Go.ChangeShapes Go.WideShapes Go.ChangeAt Go.RowKit
set_option maxRecDepth 100000 in
theorem cutKeys_lifted (os : Os) (started : os.Started) (H : Type) (enc : TypeId × Value → H) :
    ReturnsInHanded {} Tryd.checked os 7 .any (fun w args => (Rows.cutKeysSpec.pre enc Tryd.prog Tryd.f7 Rows.cutKeysRow.domain false w args ∧ laidMetH Tryd.prog laid0 w) ∧ sizedMet enc Tryd.prog Tryd.f7 (OpenSpec.ofChange Rows.cutKeysSpec) false w args)
      (Rows.cutKeysSpec.post enc Tryd.prog Tryd.f7 false true false false) := by
  refine returnsInHanded_of_change_and (C := Tryd.checked) (X := fun w _ => laidMetH Tryd.prog laid0 w) (fun _ _ _ hh h => h.of_heap hh) Tryd.own started (by kernel_rfl) Tryd.func7
    (ChangeSpec.witness_at (enc := enc) (C := Tryd.checked) (os := os) (X := fun w _ => laidMetH Tryd.prog laid0 w) false (laidWorld os) #[.agg #[.int .i64 0, .int .i64 0, .string ByteArray.empty, .string ByteArray.empty, .bool false, .slice none 0 0, .slice none 0 0, .slice none 0 0], .string ByteArray.empty, .string ByteArray.empty, .int .u8 0] 8 rfl (by kernel_rfl) (by kernel_rfl) (by kernel_rfl) (by kernel_rfl) (by kernel_rfl) (laidWorld_met os _)) ?_
  intro W base args ds gs before hval0 hW hcnd _ hL _
  have hval : ∀ (j : Nat) t v, Tryd.f7.params[j]? = some t → args[j]? = some v → Value.okWide Tryd.prog W .any base t v := hval0
  obtain ⟨p, q, hA0, hV, rfl, hfz, hnd⟩ := id hW
  have hA : DataW.TrodAll enc Tryd.prog W 0 (fun _ => true) true Tryd.f7.params.toList args.toList ds p := hA0
  rw [Tryd.params7] at hA hval
  obtain ⟨v0, vs0, d0, ds0, p0, q0, hargs, rfl, rfl, h0, r0⟩ := trodAll_cons hA
  obtain ⟨v1, vs1, d1, ds1, p1, q1, rfl, rfl, rfl, h1, r1⟩ := trodAll_cons r0
  obtain ⟨v2, vs2, d2, ds2, p2, q2, rfl, rfl, rfl, h2, r2⟩ := trodAll_cons r1
  obtain ⟨v3, vs3, d3, ds3, p3, q3, rfl, rfl, rfl, h3, r3⟩ := trodAll_cons r2
  obtain ⟨rfl, rfl, rfl⟩ := trodAll_nil r3
  obtain rfl : args = #[v0, v1, v2, v3] := by cases args; simp_all
  obtain ⟨φ, l, row, hw, hro, hle, hv0, s, rfl, hs⟩ := Opens.givenS Tryd.underlying66 opens_sh (hval 0 66 v0 rfl rfl) h0 (noHeap_rel W (rom_of_laid hL)) noHeap_ro
  obtain ⟨w1, hv1, hk1⟩ := open_cell (k := .str) Tryd.underlying9 (hval 1 9 v1 rfl rfl) h1
  obtain ⟨a, rfl⟩ := hk1.str_of
  obtain ⟨w2, hv2, hk2⟩ := open_cell (k := .str) Tryd.underlying9 (hval 2 9 v2 rfl rfl) h2
  obtain ⟨k, rfl⟩ := hk2.str_of
  obtain ⟨w3, hv3, hk3⟩ := open_cell (k := .int .u8) Tryd.underlying5 (hval 3 5 v3 rfl rfl) h3
  obtain ⟨b, rfl⟩ := hk3.int_of
  exact law_calls (P := Tryd.prog) (fn := Tryd.f7) (s := Rows.cutKeysSpec) (tb := 4) Tryd.laidOut (by decide +kernel) (by kernel_rfl) Tryd.underlying4 rfl rfl rfl rfl hW hw
    (.cons _ _ _ _ hv0 (.cons _ _ _ _ (hv1 φ) (.cons _ _ _ _ (hv2 φ) (.cons _ _ _ _ (hv3 φ) .nil)))) hro (f7_ok hs a k b)
theorem cutKeys_holds : Rows.CutKeysSaid :=
  OpenClaim.holds_of_wide 7 Tryd.f7 rfl rfl rfl rfl rfl rfl rfl ⟨rfl, rfl, rfl, rfl, rfl⟩ rfl rfl rfl rfl rfl (by kernel_rfl) Tryd.func7 (by kernel_rfl)
    (of_decide_eq_true (by kernel_rfl)) (by unfold Func.isWrapper; first | (rw [if_pos (by decide +kernel)]; kernel_rfl) | (rw [if_neg (by decide +kernel)]; exact ⟨rfl, rfl⟩))
    (fun os started H enc _ => cutKeys_lifted os started H enc)
theorem cutKeys_card : Rows.CutKeysCardSaid :=
  Claim7.holds_tied_plain_at .later [] [.handle] true (true, "fc9f041fc9623667b7b52a1514fb25a874ebdde2cacd7b665629b22dac3103d4") true
    cutKeys_holds (fun _ h => by cases h) (by kernel_rfl) (fun _ h => by cases h) cutKeys_row_tie rfl ⟨rfl, rfl⟩ (by kernel_rfl) rfl
    (fun f fn hf hfn => by
      obtain rfl : f = 7 := Option.some.inj ((show Tryd.prog.funcNamed "estuary/estuarylaw17.CutKeys" = some 7 by kernel_rfl).symm.trans hf) |>.symm
      obtain rfl : fn = Tryd.f7 := (Option.some.inj (Tryd.func7.symm.trans hfn)).symm
      exact ⟨by kernel_rfl, fun j t ht => by
        rw [Tryd.params7] at ht
        match j, ht with
        | 0, ht => obtain rfl : t = 66 := (by simpa using ht.symm); exact (show Tryd.prog.wantsStandIn 66 = false by kernel_rfl)
        | 1, ht => obtain rfl : t = 9 := (by simpa using ht.symm); exact (show Tryd.prog.wantsStandIn 9 = false by kernel_rfl)
        | 2, ht => obtain rfl : t = 9 := (by simpa using ht.symm); exact (show Tryd.prog.wantsStandIn 9 = false by kernel_rfl)
        | 3, ht => obtain rfl : t = 5 := (by simpa using ht.symm); exact (show Tryd.prog.wantsStandIn 5 = false by kernel_rfl)
        | j + 4, ht => simp at ht⟩)
    (by kernel_rfl)
end Go.Proofs.YtomljpdjfobeoaaDoor
#print axioms Go.Proofs.YtomljpdjfobeoaaDoor.cutKeys_card
