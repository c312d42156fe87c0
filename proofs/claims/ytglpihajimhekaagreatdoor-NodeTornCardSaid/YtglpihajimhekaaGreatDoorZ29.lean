/- part. -/
import Derived.Test.YtglpihajimhekaaGreatDoorZ28
import Derived.Test.YtglpihajimhekaaGreatDoorCards
set_option linter.all false
set_option maxRecDepth 100000
namespace Go.Ev
open Go.ChangeShapes Go.WideShapes Go.RowKit
theorem open_u16 {P : Program} {W : World} {r : Reach} {b0 : Nat} {t : TypeId} {v : Value} (ht : P.underlying t = some (.int .u16)) (h : Value.okWide P W r b0 t v) : ∃ n : Nat, n ≤ 65535 ∧ v = .int .u16 n := by
 obtain ⟨m, rfl⟩ := okWide_int ht h
 simp only [Value.okWide, ht, Cell.okWide, Cell.ok] at h
 have h1 : (0 : Int) ≤ m := h.2.1
 have h2 : m ≤ (65535 : Int) := h.2.2
 obtain ⟨n, rfl⟩ := Int.eq_ofNat_of_zero_le h1
 exact ⟨n, by omega, rfl⟩
end Go.Ev
namespace Go.Proofs.YtglpihajimhekaaGreatDoor
open Go Go.Ev Go.ChangeShapes Go.WideShapes Go.ChangeAt Go.RowKit
set_option maxRecDepth 100000 in
theorem nodeTorn_lifted (os : Os) (started : os.Started) (H : Type) (enc : TypeId × Value → H) :
  ReturnsInHanded {} Tryz.checked os 3 .any (fun w args => (Rows.nodeTornSpec.pre enc Tryz.prog Tryz.f3 Rows.nodeTornRow.domain false w args ∧ laidMetH Tryz.prog laid0 w) ∧ sizedMet enc Tryz.prog Tryz.f3 (OpenSpec.ofChange Rows.nodeTornSpec) false w args)
   (Rows.nodeTornSpec.post enc Tryz.prog Tryz.f3 false true false false) := by
 refine returnsInHanded_of_change_and (C := Tryz.checked) (X := fun w _ => laidMetH Tryz.prog laid0 w) (fun _ _ _ hh h => h.of_heap hh) Tryz.own started (by kernel_rfl) Tryz.func3
  (ChangeSpec.witness_at (enc := enc) (C := Tryz.checked) (os := os) (X := fun w _ => laidMetH Tryz.prog laid0 w) false (laidWorld os) #[.slice none 0 0, .int .u8 0, .int .u16 0] 8 rfl (by kernel_rfl) (by kernel_rfl) (by kernel_rfl) (by kernel_rfl) (by kernel_rfl) (laidWorld_met os _)) ?_
 intro W base args ds gs before hval0 hW hcnd _ hL _
 have hval : ∀ (j : Nat) t v, Tryz.f3.params[j]? = some t → args[j]? = some v → Value.okWide Tryz.prog W .any base t v := hval0
 obtain ⟨p, q, hA0, hV, rfl, hfz, hnd⟩ := id hW
 have hA : DataW.TrodAll enc Tryz.prog W 0 (fun _ => true) true Tryz.f3.params.toList args.toList ds p := hA0
 rw [Tryz.params3] at hA hval
 obtain ⟨v0, vs0, d0, ds0, p0, q0, hargs, rfl, rfl, h0, r0⟩ := trodAll_cons hA
 obtain ⟨v1, vs1, d1, ds1, p1, q1, rfl, rfl, rfl, h1, r1⟩ := trodAll_cons r0
 obtain ⟨v2, vs2, d2, ds2, p2, q2, rfl, rfl, rfl, h2, r2⟩ := trodAll_cons r1
 obtain ⟨rfl, rfl, rfl⟩ := trodAll_nil r2
 obtain rfl : args = #[v0, v1, v2] := by cases args; simp_all
 have hw0 : WRel Tryz.prog _ noHeap W := noHeap_rel W (rom_of_laid hL)
 have hro0 := noHeap_ro
 obtain ⟨φ, l, av, xs, hw, hro, hle, hv1, hArr, hrows, hlen⟩ := open_rows Tryz.underlying22 (ks := [.int .u8]) (by decide) (by kernel_rfl) (fun n cs x hx => open_one (k := .int .u8) Tryz.underlying5 hx) (hval 0 22 v0 rfl rfl) h0 hw0 hro0
 obtain ⟨ks, rfl, hk⟩ := bytes_of hrows
 obtain ⟨x1, hx1, rfl⟩ := open_u8 Tryz.underlying5 (hval 1 5 v1 rfl rfl)
 obtain ⟨x2, hx2, rfl⟩ := open_u16 Tryz.underlying23 (hval 2 23 v2 rfl rfl)
 exact law_calls (P := Tryz.prog) (fn := Tryz.f3) (s := Rows.nodeTornSpec) (tb := 4) Tryz.laidOut (by decide +kernel) (by kernel_rfl) Tryz.underlying4 rfl rfl rfl rfl hW hw
  (.cons _ _ _ _ hv1 (.cons _ _ _ _ (.int _ _) (.cons _ _ _ _ (.int _ _) .nil))) hro (FnOk.ro hro rfl (f3_ok hw.top hArr hk hx1 hx2))
end Go.Proofs.YtglpihajimhekaaGreatDoor
