/- WatcherPolls, proved. -/
import Derived.Test.YtomljpdjfobeoaaDoorZ22
import Derived.Test.YtomljpdjfobeoaaDoorCards
set_option linter.all false
set_option maxRecDepth 100000
namespace Go.Proofs.YtomljpdjfobeoaaDoor
open Go Go.Ev Go.ChangeShapes Go.WideShapes Go.ChangeAt Go.RowKit
set_option maxRecDepth 100000 in
theorem watcherPolls_lifted (os : Os) (started : os.Started) (H : Type) (enc : TypeId × Value → H) :
    ReturnsInHanded {} Tryd.checked os 4 .any (fun w args => (Rows.watcherPollsSpec.pre enc Tryd.prog Tryd.f4 Rows.watcherPollsRow.domain false w args ∧ laidMetH Tryd.prog laid0 w) ∧ sizedMet enc Tryd.prog Tryd.f4 (OpenSpec.ofChange Rows.watcherPollsSpec) false w args)
      (Rows.watcherPollsSpec.post enc Tryd.prog Tryd.f4 false true false false) := by
  refine returnsInHanded_of_change_and (C := Tryd.checked) (X := fun w _ => laidMetH Tryd.prog laid0 w) (fun _ _ _ hh h => h.of_heap hh) Tryd.own started (by kernel_rfl) Tryd.func4
    (ChangeSpec.witness_at (enc := enc) (C := Tryd.checked) (os := os) (X := fun w _ => laidMetH Tryd.prog laid0 w) false (laidWorld os) #[.agg #[.string ByteArray.empty, .string ByteArray.empty], .slice none 0 0, .string ByteArray.empty, .int .u8 0, .int .i64 0] 8 rfl (by kernel_rfl) (by kernel_rfl) (by kernel_rfl) (by kernel_rfl) (by kernel_rfl) (laidWorld_met os _)) ?_
  intro W base args ds gs before hval0 hW hcnd _ hL _
  have hval : ∀ (j : Nat) t v, Tryd.f4.params[j]? = some t → args[j]? = some v → Value.okWide Tryd.prog W .any base t v := hval0
  obtain ⟨p, q, hA0, hV, rfl, hfz, hnd⟩ := id hW
  have hA : DataW.TrodAll enc Tryd.prog W 0 (fun _ => true) true Tryd.f4.params.toList args.toList ds p := hA0
  rw [Tryd.params4] at hA hval
  obtain ⟨v0, vs0, d0, ds0, p0, q0, hargs, rfl, rfl, h0, r0⟩ := trodAll_cons hA
  obtain ⟨v1, vs1, d1, ds1, p1, q1, rfl, rfl, rfl, h1, r1⟩ := trodAll_cons r0
  obtain ⟨v2, vs2, d2, ds2, p2, q2, rfl, rfl, rfl, h2, r2⟩ := trodAll_cons r1
  obtain ⟨v3, vs3, d3, ds3, p3, q3, rfl, rfl, rfl, h3, r3⟩ := trodAll_cons r2
  obtain ⟨v4, vs4, d4, ds4, p4, q4, rfl, rfl, rfl, h4, r4⟩ := trodAll_cons r3
  obtain ⟨rfl, rfl, rfl⟩ := trodAll_nil r4
  obtain rfl : args = #[v0, v1, v2, v3, v4] := by cases args; simp_all
  obtain ⟨φ, l, row, hw, hro, _, hv0, ⟨f, t, rfl⟩⟩ := Opens.givenS Tryd.underlying30 opens_span (hval 0 30 v0 rfl rfl) h0 (noHeap_rel W (rom_of_laid hL)) noHeap_ro
  obtain ⟨φ2, l2, av2, xs2, hw2, hro2, hle, hv1, hArr, hrows2, hlen2⟩ := Opens.given Tryd.underlying43 (by kernel_rfl) (by decide) opens_sn (hval 1 43 v1 rfl rfl) h1 hw hro
  obtain ⟨seen, rfl⟩ := rows_of hrows2
  obtain ⟨w2, hv2, hk2⟩ := open_cell (k := .str) Tryd.underlying9 (hval 2 9 v2 rfl rfl) h2
  obtain ⟨at_, rfl⟩ := hk2.str_of
  obtain ⟨b, hb, rfl⟩ := open_u8 Tryd.underlying5 (hval 3 5 v3 rfl rfl)
  obtain ⟨w4, hv4, hk4⟩ := open_cell (k := .int .i64) Tryd.underlying3 (hval 4 3 v4 rfl rfl) h4
  obtain ⟨cr, rfl⟩ := hk4.int_of
  replace hw := hw2
  replace hro := hro2
  exact law_calls (P := Tryd.prog) (fn := Tryd.f4) (s := Rows.watcherPollsSpec) (tb := 4) Tryd.laidOut (by decide +kernel) (by kernel_rfl) Tryd.underlying4 rfl rfl rfl rfl hW hw
    (.cons _ _ _ _ (hv0.mono hle) (.cons _ _ _ _ hv1 (.cons _ _ _ _ (hv2 φ2) (.cons _ _ _ _ (.int _ _) (.cons _ _ _ _ (hv4 φ2) .nil))))) hro (f4_ok hArr hb cr)
theorem watcherPolls_holds : Rows.WatcherPollsSaid :=
  OpenClaim.holds_of_wide 4 Tryd.f4 rfl rfl rfl rfl rfl rfl rfl ⟨rfl, rfl, rfl, rfl, rfl⟩ rfl rfl rfl rfl rfl (by kernel_rfl) Tryd.func4 (by kernel_rfl)
    (of_decide_eq_true (by kernel_rfl)) (by unfold Func.isWrapper; first | (rw [if_pos (by decide +kernel)]; kernel_rfl) | (rw [if_neg (by decide +kernel)]; exact ⟨rfl, rfl⟩))
    (fun os started H enc _ => watcherPolls_lifted os started H enc)
theorem watcherPolls_card : Rows.WatcherPollsCardSaid :=
  Claim7.holds_tied_plain_at .later [] [.handle] true (true, "fc9f041fc9623667b7b52a1514fb25a874ebdde2cacd7b665629b22dac3103d4") true
    watcherPolls_holds (fun _ h => by cases h) (by kernel_rfl) (fun _ h => by cases h) watcherPolls_row_tie rfl ⟨rfl, rfl⟩ (by kernel_rfl) rfl
    (fun f fn hf hfn => by
      obtain rfl : f = 4 := Option.some.inj ((show Tryd.prog.funcNamed "estuary/estuarylaw24.WatcherPolls" = some 4 by kernel_rfl).symm.trans hf) |>.symm
      obtain rfl : fn = Tryd.f4 := (Option.some.inj (Tryd.func4.symm.trans hfn)).symm
      exact ⟨by kernel_rfl, fun j t ht => by
        rw [Tryd.params4] at ht
        match j, ht with
        | 0, ht => obtain rfl : t = 30 := (by simpa using ht.symm); exact (show Tryd.prog.wantsStandIn 30 = false by kernel_rfl)
        | 1, ht => obtain rfl : t = 43 := (by simpa using ht.symm); exact (show Tryd.prog.wantsStandIn 43 = false by kernel_rfl)
        | 2, ht => obtain rfl : t = 9 := (by simpa using ht.symm); exact (show Tryd.prog.wantsStandIn 9 = false by kernel_rfl)
        | 3, ht => obtain rfl : t = 5 := (by simpa using ht.symm); exact (show Tryd.prog.wantsStandIn 5 = false by kernel_rfl)
        | 4, ht => obtain rfl : t = 3 := (by simpa using ht.symm); exact (show Tryd.prog.wantsStandIn 3 = false by kernel_rfl)
        | j + 5, ht => simp at ht⟩)
    (by kernel_rfl)
end Go.Proofs.YtomljpdjfobeoaaDoor
#print axioms Go.Proofs.YtomljpdjfobeoaaDoor.watcherPolls_card
