/- part. -/
import Derived.Test.YtglpihajimhekaaGreatDoorZ25
import Derived.Test.YtglpihajimhekaaGreatDoorZ24
import Derived.Test.YtglpihajimhekaaGreatDoorZ23
import Derived.Test.YtglpihajimhekaaGreatDoorProg
import Derived.KernelRfl
set_option linter.all false
namespace Go.Proofs
open Go.RowKit Go.Extern.Stop Go.Stop Go.Extern
theorem Tryz.as_typeOfF (v : Value) (w : World) : (ReflectliteType.typeOf #[.iface 298 v]).run Tryz.prog w = .ok (.iface 251 (.agg #[.pointer (some ⟨2, 298, none⟩)])) w := by kernel_rfl
theorem Tryz.as_assignableF (w : World) : (ReflectliteType.relation "AssignableTo" ReflectliteType.assignableTo #[.agg #[.pointer (some ⟨2, 298, none⟩)], .iface 251 (.agg #[.pointer (some ⟨2, 125, none⟩)])]).run Tryz.prog w = .ok (.bool false) w := by kernel_rfl
theorem Tryz.noAsF (v : Value) (xT : TypeId) (w : World) : (Instr.typeAssert (.iface 298 v) xT 292 true).run Tryz.prog w = .ok (.tuple #[.nilIface, .bool false]) w := run_typeAssert_lacksB Tryz.underlying292 (by kernel_rfl) (by kernel_rfl) v xT w
theorem Tryz.hasUnwrap (v : Value) (xT : TypeId) (w : World) : (Instr.typeAssert (.iface 298 v) xT 255 true).run Tryz.prog w = .ok (.tuple #[.iface 298 v, .bool true]) w := by
 have := run_typeAssert_hasB (P := Tryz.prog) (t := 298) (v := v) (xT := xT) (w := w) Tryz.underlying255 (by kernel_rfl)
 simpa using this
theorem Tryz.as_methodUnwrap (v : Value) (w : World) : (Go.method 492 298 v "Unwrap").run Tryz.prog w = .ok (342, v) w := by kernel_rfl
set_option maxHeartbeats 4000000 in
theorem as_fault (e : Int) (b o : Nat) (t : Addr) (old : Value) (w : World) (hg : w.cell? ⟨0, 0, none⟩ = some (.iface 251 (.agg #[.pointer (some ⟨2, 68, none⟩)]))) (ht0 : w.cell? t = some old) (hf0 : w.frozen? t = false) (hp : w.cell? ⟨b, o + 1, none⟩ = some (.iface 125 (.int .i64 e))) :
  Calls Tryz.prog 113 #[.iface 298 (.pointer (some ⟨b, o, none⟩)), .iface 176 (.pointer (some t))] w fun ev w' => ev = .returned (.bool true) ∧ w' = ((((w.alloc (.cells #[.pointer (some t)] 176)).alloc (.cells #[.pointer (some ⟨2, 176, none⟩), .pointer (some ⟨w.heap.size, 0, none⟩), .int .u64 150] 235)).alloc (.cells #[.pointer (some ⟨2, 176, none⟩), .pointer (some ⟨w.heap.size, 0, none⟩), .int .u64 150] 235)).alloc (.cells #[.int .i64 e] 125)).setCell t (.int .i64 e) := by
 have h6 := @run_callFunc_extern Tryz.prog 179 _ (fun args => ReflectliteValue.unpack (args.getD 0 (.tuple #[]))) Tryz.func179 (by kernel_rfl) (by kernel_rfl) (by kernel_rfl) (by kernel_rfl)
 have h7 := @run_callFunc_extern Tryz.prog 180 _ (ReflectliteValue.methodAny (ReflectliteValue.valueError "reflectlite.Value.Type" 0) (fun t _ _ _ => ReflectliteType.toType t)) Tryz.func180 (by kernel_rfl) (by kernel_rfl) (by kernel_rfl) (by kernel_rfl)
 have h8 := @run_callFunc_extern Tryz.prog 181 _ (ReflectliteValue.method (ReflectliteValue.valueError "reflectlite.Value.IsNil" 0) ReflectliteValue.isNil) Tryz.func181 (by kernel_rfl) (by kernel_rfl) (by kernel_rfl) (by kernel_rfl)
 have h27 := @run_callFunc_extern Tryz.prog 321 _ (ReflectliteType.abiMethod fun t => do pure (.int .u8 (← Rtype.kind t))) Tryz.func321 (by kernel_rfl) (by kernel_rfl) (by kernel_rfl) (by kernel_rfl)
 have h37 := @run_callFunc_extern Tryz.prog 333 _ (ReflectliteType.method ReflectliteType.elem) Tryz.func333 (by kernel_rfl) (by kernel_rfl) (by kernel_rfl) (by kernel_rfl)
 have h38 := @run_callFunc_extern Tryz.prog 334 _ (ReflectliteType.relation "Implements" ReflectliteType.implements_) Tryz.func334 (by kernel_rfl) (by kernel_rfl) (by kernel_rfl) (by kernel_rfl)
 have h10 := @run_callFunc_extern Tryz.prog 137 _ ReflectliteType.typeOf Tryz.func137 (by kernel_rfl) (by kernel_rfl) (by kernel_rfl) (by kernel_rfl)
 have h35 := @run_callFunc_extern Tryz.prog 331 _ (ReflectliteType.relation "AssignableTo" ReflectliteType.assignableTo) Tryz.func331 (by kernel_rfl) (by kernel_rfl) (by kernel_rfl) (by kernel_rfl)
 have h11 := @run_callFunc_extern Tryz.prog 230 _ (ReflectliteValue.method (ReflectliteValue.valueError "reflectlite.Value.Elem" 0) ReflectliteValue.elem) Tryz.func230 (by kernel_rfl) (by kernel_rfl) (by kernel_rfl) (by kernel_rfl)
 have h12 := @run_callFunc_extern Tryz.prog 231 _ ReflectliteValue.set Tryz.func231 (by kernel_rfl) (by kernel_rfl) (by kernel_rfl) (by kernel_rfl)
 have tO := Tryz.as_typeOf25
 have tF := Tryz.as_typeOfF
 have aF := Tryz.as_assignableF
 have nF := Tryz.noAsF
 have hF := Tryz.hasUnwrap
 have mU := Tryz.as_methodUnwrap
 have mA := Tryz.as_methodAssignableTo
 have a25 := Tryz.as_assignable25
 have v25 := Tryz.as_valueOf25
 have f6 := Tryz.as_valueOf27
 have f7 := Tryz.as_type27
 have mK := Tryz.as_methodKind
 have mE := Tryz.as_methodElem
 have mI := Tryz.as_methodImplements
 have k27 := Tryz.as_kind27
 have k25 := Tryz.as_kind25
 have e27 := Tryz.as_elem27
 have i25 := Tryz.as_implements25
 have n8 := Tryz.as_isNil27 ⟨w.heap.size, 0, none⟩ t ((w.alloc (.cells #[.pointer (some t)] 176)).alloc (.cells #[.pointer (some ⟨2, 176, none⟩), .pointer (some ⟨w.heap.size, 0, none⟩), .int .u64 150] 235)) (by simp)
 have hlt : 0 < w.heap.size := by
  rcases Nat.eq_zero_or_pos w.heap.size with h0 | h
  ·simp [World.cell?, h0] at hg
  ·exact h
 have hg2 : ((w.alloc (.cells #[.pointer (some t)] 176)).alloc (.cells #[.pointer (some ⟨2, 176, none⟩), .pointer (some ⟨w.heap.size, 0, none⟩), .int .u64 150] 235)).cell? ⟨0, 0, none⟩ = some (.iface 251 (.agg #[.pointer (some ⟨2, 68, none⟩)])) := by
  rw [World.cell?_alloc_lt _ _ ⟨0, 0, none⟩ (by simp), World.cell?_alloc_lt _ _ ⟨0, 0, none⟩ hlt]; exact hg
 have htl : t.block < w.heap.size := by
  rcases Nat.lt_or_ge t.block w.heap.size with h | h
  ·exact h
  ·simp [World.cell?, Array.getElem?_eq_none h] at ht0
 have el := Tryz.as_elemV27 ⟨w.heap.size, 0, none⟩ t (((w.alloc (.cells #[.pointer (some t)] 176)).alloc (.cells #[.pointer (some ⟨2, 176, none⟩), .pointer (some ⟨w.heap.size, 0, none⟩), .int .u64 150] 235)).alloc (.cells #[.pointer (some ⟨2, 176, none⟩), .pointer (some ⟨w.heap.size, 0, none⟩), .int .u64 150] 235)) (by rw [World.cell?_alloc_lt _ _ ⟨w.heap.size, 0, none⟩ (by simp; omega)]; simp)
 have st := Tryz.as_set25 t ⟨w.heap.size + 1 + 1 + 1, 0, none⟩ e old ((((w.alloc (.cells #[.pointer (some t)] 176)).alloc (.cells #[.pointer (some ⟨2, 176, none⟩), .pointer (some ⟨w.heap.size, 0, none⟩), .int .u64 150] 235)).alloc (.cells #[.pointer (some ⟨2, 176, none⟩), .pointer (some ⟨w.heap.size, 0, none⟩), .int .u64 150] 235)).alloc (.cells #[.int .i64 e] 125))
  (by rw [World.cell?_alloc_at _ _ _ _ (by simp)]; rfl)
  (by rw [World.cell?_alloc_lt _ _ t (by simp; omega), World.cell?_alloc_lt _ _ t (by simp; omega), World.cell?_alloc_lt _ _ t (by simp; omega), World.cell?_alloc_lt _ _ t htl]; exact ht0)
  (by rw [World.frozen?_alloc_old _ _ t (by simp; omega), World.frozen?_alloc_old _ _ t (by simp; omega), World.frozen?_alloc_old _ _ t (by simp; omega), World.frozen?_alloc_old _ _ t (Nat.ne_of_lt htl)]; exact hf0)
 have hbl : b < w.heap.size := by
  rcases Nat.lt_or_ge b w.heap.size with h | h
  ·exact h
  ·simp [World.cell?, Array.getElem?_eq_none h] at hp
 have hp3 : (((w.alloc (.cells #[.pointer (some t)] 176)).alloc (.cells #[.pointer (some ⟨2, 176, none⟩), .pointer (some ⟨w.heap.size, 0, none⟩), .int .u64 150] 235)).alloc (.cells #[.pointer (some ⟨2, 176, none⟩), .pointer (some ⟨w.heap.size, 0, none⟩), .int .u64 150] 235)).cell? ⟨b, o + 1, none⟩ = some (.iface 125 (.int .i64 e)) := by
  rw [World.cell?_alloc_lt _ _ ⟨b, o + 1, none⟩ (by simp; omega), World.cell?_alloc_lt _ _ ⟨b, o + 1, none⟩ (by simp; omega), World.cell?_alloc_lt _ _ ⟨b, o + 1, none⟩ hbl]; exact hp
 go_enter Tryz.func113, Tryz.ntmps113
 go_wp2
 refine wp_loop_rounds 2 ?_
 rw [rounds_succ]
 go_wp2
 rw [rounds_succ]
 go_wp2
 go_ret
 exact ⟨rfl, rfl⟩
theorem Tryz.noIsF (v : Value) (xT : TypeId) (w : World) : (Instr.typeAssert (.iface 298 v) xT 253 true).run Tryz.prog w = .ok (.tuple #[.nilIface, .bool false]) w := run_typeAssert_lacksB Tryz.underlying253 (by kernel_rfl) (by kernel_rfl) v xT w
theorem is_fault (e a : Int) (b o : Nat) (w : World) (hp : w.cell? ⟨b, o + 1, none⟩ = some (.iface 125 (.int .i64 e))) : Calls Tryz.prog 65 #[.iface 298 (.pointer (some ⟨b, o, none⟩)), .iface 125 (.int .i64 a)] w fun ev w' => ev = .returned (.bool (e == a)) ∧ w' = w := by
 have h61 := @run_callFunc_extern Tryz.prog 137 _ Extern.ReflectliteType.typeOf Tryz.func137 (by kernel_rfl) (by kernel_rfl) (by kernel_rfl) (by kernel_rfl)
 have h144 := @run_callFunc_extern Tryz.prog 332 _ (Extern.ReflectliteType.method fun t => do Rtype.noPackHeld "Comparable" t; pure (.bool (← typeInfo t).comparable)) Tryz.func332 (by kernel_rfl) (by kernel_rfl) (by kernel_rfl) (by kernel_rfl)
 have tT := Tryz.isTypeOf
 have cT := Tryz.isComparable
 have mR := Tryz.isMethodComparable
 have n1 := Tryz.noIs
 have n2 := Tryz.noUnwrap
 have n3 := Tryz.noUnwraps
 have nF := Tryz.noIsF
 have hF := Tryz.hasUnwrap
 have mU := Tryz.as_methodUnwrap
 have hty := run_eql_iface_types (P := Tryz.prog) (ti := 68) 298 125 (.pointer (some ⟨b, o, none⟩)) (.int .i64 a) Tryz.underlying68 (by decide) w
 have heq := Go.Lib.run_eql_iface_int (P := Tryz.prog) (t := 68) (k := .i64) w e a Tryz.underlying68 Tryz.isComp Tryz.underlying125
 by_cases hab : e = a
 ·subst hab
  rw [beq_self_eq_true] at heq ⊢
  go_enter Tryz.func65, Tryz.ntmps65
  go_wp2
  refine wp_loop_rounds 2 ?_
  rw [rounds_succ]
  go_wp2
  rw [rounds_succ]
  go_wp2
  go_ret
  exact ⟨rfl, rfl⟩
 ·rw [show (e == a) = false from beq_false_of_ne hab] at heq ⊢
  go_enter Tryz.func65, Tryz.ntmps65
  go_wp2
  refine wp_loop_rounds 2 ?_
  rw [rounds_succ]
  go_wp2
  rw [rounds_succ]
  go_wp2
  go_ret
  exact ⟨rfl, rfl⟩
end Go.Proofs
set_option maxRecDepth 100000
namespace Go.Proofs
open Go Go.Ev
variable {H : Heap}
section
variable {P : Program} {φ : Phi} {w : World}
theorem cell2_of_row (hw : WRel P φ H w) {k : K} {wr : Bool} {x y : AV} {a : At} (hk : H.get k = some (.row wr 2 [[x, y]])) (hφ : φ k = some a) : ∃ v, w.cell? ⟨a.b, a.o + 1, none⟩ = some v ∧ VRel P φ y v := by
 obtain ⟨hp, _, pre, vs, post, e, lo, hi, g1, g2, g3, g4, g5, g6⟩ := hw.blk k _ a hk hφ
 have g5 : VRels P φ [x, y] vs := g5
 cases g5 with
 | cons _ _ u l h1 h2 =>
  cases h2 with
  | cons _ _ v l h3 h4 =>
   cases h4
   refine ⟨v, ?_, h3⟩
   simp only [World.cell?, g1]
   simp [← g2]
end
theorem f65_fault {k : K} {wr : Bool} {x : AV} {n : Int} (hk : H.get k = some (.row wr 2 [[x, .iface 125 (.int .i64 n)]])) (m : Int) : FnOk Tryz.prog 65 [.iface 298 (.ptr k 0), .iface 125 (.int .i64 m)] H fun r G => r = .bool (n == m) ∧ G = H := by
 refine FnOk.of_calls fun φ w args' ha hw => ?_
 obtain ⟨v, u, rfl, h1, h2⟩ := two_args ha
 obtain rfl := num_inv h2
 cases h1 with
 | iface _ _ u' h1 =>
  cases h1 with
  | ptr _ _ a ha2 =>
   obtain ⟨z, hz, hzr⟩ := cell2_of_row hw hk ha2
   obtain rfl := num_inv hzr
   refine (is_fault n m a.b a.o w hz).mono ?_
   rintro e w' ⟨rfl, rfl⟩
   exact ⟨⟨_, rfl, .bool _⟩, Grows.refl _⟩
theorem f113_fault {k j : K} {x y : AV} {wr : Bool} {n : Int} (hk : H.get k = some (.row true 1 [[x]])) (hj : H.get j = some (.row wr 2 [[y, .iface 125 (.int .i64 n)]])) : FnOk Tryz.prog 113 [.iface 298 (.ptr j 0), .iface 176 (.ptr k 0)] H fun r G => r = .bool true ∧ G = H.set k (.row true 1 [[.int .i64 n]]) := by
 refine FnOk.of_calls_set (y' := .int .i64 n) hk (fun φ => .int _ _) rfl (fun φ => ⟨_, .bool _⟩) fun φ w args' ha hw => ?_
 obtain ⟨v, u, rfl, h1, h2⟩ := two_args ha
 cases h2 with
 | iface _ _ u' h2 =>
  cases h2 with
  | ptr _ _ a ha2 =>
   cases h1 with
   | iface _ _ u' h1 =>
    cases h1 with
    | ptr _ _ b hb2 =>
     obtain ⟨z, hz, hzr⟩ := cell2_of_row hw hj hb2
     obtain rfl := num_inv hzr
     refine ⟨a, ha2, fun old ho hf => ?_⟩
     refine (as_fault n b.b b.o ⟨a.b, a.o, none⟩ old w (hw.rom 0 _ (List.mem_singleton.2 rfl)).1 ho hf hz).mono ?_
     rintro e w' ⟨rfl, rfl⟩
     exact ⟨⟨_, rfl, .bool _⟩, _, (((Grows.alloc _ _).trans (Grows.alloc _ _)).trans (Grows.alloc _ _)).trans (Grows.alloc _ _), rfl⟩
end Go.Proofs
namespace Go.Proofs
open Go Go.Ev
variable {H : Heap}
theorem f190_ok (p : List Nat) : FnOk Tryz.prog 190 [.int .i64 11, .str p] H fun r G => r = .iface 298 (.ptr (H.key 0) 0) ∧ G = H.ext [.row true 2 [[.str p, .iface 125 (.int .i64 11)]]] := by
 refine FnOk.of_WW Tryz.func190 rfl C190ok R190ok E0 good_E0 ?_
 simp only [go_sem, C190]
 first | done | exact ⟨rfl, rfl⟩ | exact rfl | trace_state
def shE (H : Heap) (v : AV) : Prop := v = .iface 125 (.int .i64 11) ∨ ∃ j wr x, v = .iface 298 (.ptr j 0) ∧ H.get j = some (.row wr 2 [[x, .iface 125 (.int .i64 11)]])
theorem f163_nil : FnOk Tryz.prog 163 [.str []] H fun r G => ∃ ev, r = .tup [.int .i64 0, .str [], ev] ∧ ∃ L, G = H.ext L ∧ shE G ev := by
 refine FnOk.of_WW Tryz.func163 rfl C163ok R163ok E0 good_E0 ?_
 simp only [go_sem, C163]
 refine LL.un good_E0 1 ?_
 simp only [go_sem]
 refine CL.of (f190_ok _) ?_
 rintro _ _ ⟨rfl, rfl⟩
 simp only [go_sem]
 exact ⟨_, rfl, _, rfl, .inr ⟨_, _, _, rfl, get_lit (i := 0) rfl⟩⟩
theorem f166_nil : FnOk Tryz.prog 166 [.str [], .int .i64 200000] H fun r G => ∃ ev, r = .tup [.str [], .str [], ev] ∧ ∃ L, G = H.ext L ∧ shE G ev := by
 refine FnOk.of_WW Tryz.func166 rfl C166ok R166ok E0 good_E0 ?_
 simp only [go_sem, C166]
 refine CL.of f163_nil ?_
 rintro _ _ ⟨ev, rfl, L, rfl, hev⟩
 rcases hev with rfl | ⟨j, wr, x, rfl, hj⟩
 ·simp only [go_sem]
  refine CL.of (f65_ok (some 11) 11) ?_
  rintro _ _ ⟨rfl, rfl⟩
  simp only [go_sem]
  exact ⟨_, rfl, _, rfl, .inl rfl⟩
 ·simp only [go_sem]
  refine CL.of (f65_fault hj 11) ?_
  rintro _ _ ⟨rfl, rfl⟩
  rw [show ((11 : Int) == 11) = true from rfl]
  simp only [go_sem]
  exact ⟨_, rfl, _, rfl, .inr ⟨_, _, _, rfl, hj⟩⟩
theorem f166_lack {n : Nat} {l : List Nat} (hn : n < 64) (hl : l.length < n) : FnOk Tryz.prog 166 [.str (n :: l), .int .i64 200000] H fun r G => ∃ ev, r = .tup [.str [], .str (n :: l), ev] ∧ ∃ L, G = H.ext L ∧ shE G ev := by
 refine FnOk.of_WW Tryz.func166 rfl C166ok R166ok E0 good_E0 ?_
 simp only [go_sem, C166]
 have h := f163_num (n := n) (by omega) (l := l) (by omega) (H := H)
 rw [numT_lo hn] at h
 refine CL.of h ?_
 rintro _ G' ⟨rfl, hG⟩; rw [hG]; clear hG
 simp only [go_sem]
 refine CL.of (f65_ok none 11) ?_
 rintro _ G' ⟨rfl, hG⟩; rw [hG]; clear hG
 have h1 : ¬ (200000 : Int) < (n : Int) := by omega
 have h2 : (l.length : Int) < (n : Int) := by omega
 simp only [go_sem, h1, h2]
 refine CL.of (f190_ok _) ?_
 rintro _ _ ⟨rfl, rfl⟩
 simp only [go_sem]
 exact ⟨_, rfl, _, rfl, .inr ⟨_, _, _, rfl, get_lit (i := 0) rfl⟩⟩
theorem f135_short {p : List Nat} (hp : p.length < 4 ∨ (p.drop 4 = [] ∨ ∃ n l, p.drop 4 = n :: l ∧ n < 64 ∧ l.length < n)) : FnOk Tryz.prog 135 [.str p] H fun r G => ∃ ev, r = .tup [.str [], .str p, ev] ∧ ∃ L, G = H.ext L ∧ shE G ev := by
 refine FnOk.of_WW Tryz.func135 rfl C135ok R135ok E0 good_E0 ?_
 by_cases h4 : p.length < 4
 ·have c4 : (p.length : Int) < 4 := by omega
  simp only [go_sem, C135, c4]
  exact ⟨_, rfl, _, rfl, .inl rfl⟩
 have c4 : ¬ (p.length : Int) < 4 := by omega
 obtain ⟨d, hd⟩ : ∃ d, d = p.drop 4 := ⟨_, rfl⟩
 rw [← hd] at hp
 have hd4 : ∀ {β : Type} (f : β) (c : List Nat → β), dropC f 4 p c = c d := fun f c => by rw [dropC_eq, if_pos (by omega), hd]
 have h66 : FnOk Tryz.prog 166 [.str d, .int .i64 200000] H fun r G => ∃ ev, r = .tup [.str [], .str d, ev] ∧ ∃ L, G = H.ext L ∧ shE G ev := by
  rcases hp with h | h | ⟨n, l, h, h1, h2⟩
  ·exact absurd h h4
  ·rw [h]; exact f166_nil
  ·rw [h]; exact f166_lack h1 h2
 simp only [go_sem, C135, c4, hd4]
 refine CL.of h66 ?_
 rintro _ _ ⟨ev, rfl, L, rfl, hev⟩
 rcases hev with rfl | ⟨j, wr, x, rfl, hj⟩
 ·simp only [go_sem]
  exact ⟨_, rfl, _, rfl, .inl rfl⟩
 ·simp only [go_sem]
  exact ⟨_, rfl, _, rfl, .inr ⟨_, _, _, rfl, hj⟩⟩
theorem f135_more {s l : List Nat} (hs : s.length < 200001) (hl : l.length < 200001) : FnOk Tryz.prog 135 [.str (wrapT s ++ l)] H fun r G => r = .tup [.str s, .str l, .nili] ∧ G = H := by
 refine FnOk.drop (R := fun r => r = .tup [.str s, .str l, .nili]) ?_ (by rintro v rfl ρ; simp only [AV.ren, AV.rens])
 refine FnOk.of_WW Tryz.func135 rfl C135ok R135ok EFr good_EFr ?_
 have hl1 := textT_le (s := s) (by omega)
 obtain ⟨t, ht⟩ : ∃ t, t = textT s := ⟨_, rfl⟩
 have hw : wrapT s = byT (sumT t) ++ t := by rw [ht]; rfl
 have hb : (byT (sumT t)).length = 4 := rfl
 obtain ⟨w, hwd⟩ : ∃ w, w = wrapT s ++ l := ⟨_, rfl⟩
 have hwl : w.length = 4 + t.length + l.length := by rw [hwd, hw, List.length_append, List.length_append, hb]
 have c1 : ¬ ((4 + t.length + l.length : Nat) : Int) < 4 := by omega
 have hd : w.drop 4 = t ++ l := by rw [hwd, hw, List.append_assoc, ← hb, List.drop_left]
 have hd4 : ∀ {β : Type} (f : β) (c : List Nat → β), dropC f 4 w c = c (t ++ l) := fun f c => by rw [dropC_eq, if_pos (by omega), hd]
 have hw4 : w.take 4 = byT (sumT t) := by rw [hwd, hw, List.append_assoc, ← hb, List.take_left]
 have ht4 : ∀ {β : Type} (f : β) (c : List Nat → β), takeC f 4 w c = c (byT (sumT t)) := fun f c => by rw [takeC_eq, if_pos (by omega), hw4]
 have hd0 : ∀ {β : Type} (f : β) (c : List Nat → β), dropC f 0 w c = c w := fun f c => by rw [dropC_eq, if_pos (Nat.zero_le _), List.drop_zero]
 have hsub : IntKind.i64.wrap (((4 + t.length + l.length : Nat) : Int) - (l.length : Int)) = ((4 + t.length : Nat) : Int) := by rw [wrap_i64 (by omega) (by rw [ht]; omega)]; omega
 have h77 := f166_txt (H := H) (s := s) (l := l) (most := 200000) (by omega) (by omega)
 rw [← ht] at h77
 have e := fun H => ef120 (s := t) (by rw [ht]; omega) H
 rw [← hwd]
 simp only [go_sem, C135, hwl, c1, hd4]
 refine CL.of h77 ?_
 rintro _ G' ⟨rfl, hG⟩; rw [hG]; clear hG
 have p0 : (0 : Int) ≤ ((4 + t.length : Nat) : Int) := by omega
 have q4 : 4 + t.length - 4 = t.length := by omega
 have h4l : 4 ≤ 4 + t.length := Nat.le_add_right _ _
 have hle : 4 + t.length ≤ 4 + t.length + l.length := Nat.le_add_right _ _
 have htk : List.take t.length (t ++ l) = t := List.take_left
 simp only [go_sem, hwl, hd4, ht4, hd0, hw4, hsub, e, ef119, Int.toNat_natCast, p0, q4, h4l, hle, htk]
 exact ⟨by omega, by omega, by omega, by omega, [], rfl⟩
end Go.Proofs
namespace Go.Proofs
open Go Go.Ev
variable {H : Heap}
def wrapsT (l : List (List Nat)) : List Nat := l.flatMap wrapT
theorem wrapsT_cons (s : List Nat) (l : List (List Nat)) : wrapsT (s :: l) = wrapT s ++ wrapsT l := rfl
def tornT (p : List Nat) : Prop := p.length < 4 ∨ (p.drop 4 = [] ∨ ∃ n l, p.drop 4 = n :: l ∧ n < 64 ∧ l.length < n)
def strsV (l : List (List Nat)) : List (List AV) := l.map fun s => [.str s]
theorem strs_rens (l : List (List Nat)) (ρ : K → K) : (strsV l).map (AV.rens ρ) = strsV l := by
 unfold strsV
 rw [List.map_map]
 exact List.map_congr_left fun s _ => by simp only [Function.comp, AV.rens, AV.ren]
theorem all_end {l : List (List Nat)} (hok : H.ok) {L : List Blk} {b : Blk} : ((H.ext (outB 1 (strsV l) :: (L ++ [Blk.row true 1 [[AV.int IntKind.i64 0]]]))).set (H.key (L.length + 1)) b).ok ∧ Arr ((H.ext (outB 1 (strsV l) :: (L ++ [Blk.row true 1 [[AV.int IntKind.i64 0]]]))).set (H.key (L.length + 1)) b) 1 (outV (H.key 0) 1 l.length) (strsV l) ∧ Kp [] H ((H.ext (outB 1 (strsV l) :: (L ++ [Blk.row true 1 [[AV.int IntKind.i64 0]]]))).set (H.key (L.length + 1)) b) := by
 have e : (H.ext (outB 1 (strsV l) :: (L ++ [Blk.row true 1 [[AV.int IntKind.i64 0]]]))).set (H.key (L.length + 1)) b = H.ext ((outB 1 (strsV l) :: (L ++ [Blk.row true 1 [[AV.int IntKind.i64 0]]])).set (L.length + 1) b) := Heap.set_ext_key _ _ _ _ (by rw [List.length_cons, List.length_append]; exact Nat.lt_succ_self _)
 rw [e]
 refine ⟨Heap.ok_ext hok _, arr_outV (i := 0) rfl (List.length_map ..), ⟨fun j c _ hj => Heap.get_ext_old hok hj _, by rw [Heap.nx_ext, Heap.toNat_key]; exact Nat.le_add_right _ _⟩⟩
theorem f63_ok {l : List (List Nat)} {p : List Nat} (hok : H.ok) (hp : tornT p) (hn : l.length < 100000) (hl : (wrapsT l ++ p).length < 200001) (hs : ∀ s ∈ l, s.length < 200001) :
  FnOk Tryz.prog 63 [.str (wrapsT l ++ p)] H fun r G => ∃ v, r = .tup [v, .int .i64 ((wrapsT l).length : Nat)] ∧ G.ok ∧ Arr G 1 v (strsV l) ∧ Kp [] H G := by
 refine FnOk.of_WW Tryz.func63 rfl C63ok R63ok E0 good_E0 ?_
 obtain ⟨b, hb⟩ : ∃ b, b = wrapsT l ++ p := ⟨_, rfl⟩
 rw [← hb]
 simp only [go_sem, C63]
 refine LL.st good_E0 (fun i : Nat => l.length - i) (fun i => i ≤ l.length)
  (fun i => [(K.z, .str b), (K.z.o.i, outV (H.key 0) 1 i), (K.z.i.o, .str (wrapsT (l.drop i) ++ p))]) (fun i => [outB 1 (strsV (l.take i))]) ?_ 0 (σ := [0]) (Wk.of rfl (by decide) (by simp only [go_sem, outV_ren', List.drop_zero, hb]; first | done | exact ⟨rfl, rfl, rfl⟩ | trace_state) (by simp only [go_sem, List.take_zero, strsV, List.map_nil]; first | done | exact fun h => h.elim | trace_state)) (Nat.zero_le _)
 rintro i hi
 by_cases hlt : i < l.length
 ·have hdr : wrapsT (l.drop i) ++ p = wrapT l[i] ++ (wrapsT (l.drop (i + 1)) ++ p) := by
   rw [List.drop_eq_getElem_cons hlt, wrapsT_cons, List.append_assoc]
  have hsl := hs l[i] (List.getElem_mem hlt)
  have htk : l.take (i + 1) = l.take i ++ [l[i]] := by rw [List.take_add_one, List.getElem?_eq_getElem hlt]; rfl
  have hrl : (wrapsT (l.drop (i + 1)) ++ p).length < 200001 := by
   have e1 : wrapsT l = wrapsT (l.take i) ++ wrapsT (l.drop i) := by
    rw [wrapsT, wrapsT, wrapsT, ← List.flatMap_append, List.take_append_drop]
   rw [e1, List.append_assoc, hdr, List.length_append, List.length_append] at hl
   omega
  rw [hdr]
  generalize l[i] = c at *
  simp only [go_sem, ↓appR_hide]
  refine CL.of (f135_more hsl hrl) ?_
  rintro _ G' ⟨rfl, hG⟩; rw [hG]; clear hG
  simp only [go_sem, ↓appR_hide]
  refine CL.of (f113_none _) ?_
  rintro _ G' ⟨rfl, hG⟩; rw [hG]; clear hG
  simp only [go_sem, ↓appR_hide]
  refine RW_app (strsV (l.take i)) [.str c] rfl (by rw [strsV, List.length_map, List.length_take, Nat.min_eq_left hi]) rfl (okBig_le (by omega) (by decide)) ?_
  simp only [go_sem, ↓appR_hide]
  rw [show outB 1 (strsV (l.take i) ++ [[.str c]]) = outB 1 (strsV (l.take (i + 1))) by rw [htk, strsV, strsV, List.map_append]; rfl]
  refine ⟨i + 1, by show l.length - (i + 1) < l.length - i; omega, hlt, _, [3], rfl, Wk.of rfl (by decide) (by simp only [go_sem, outV_ren']; first | done | trace_state) (by simp only [go_sem, ↓outB_ren', strs_rens, implies_true])⟩
 ·obtain rfl : i = l.length := by omega
  have hd0 : wrapsT (l.drop l.length) ++ p = p := by rw [List.drop_length]; rfl
  have htk : l.take l.length = l := List.take_length
  rw [hd0, htk]
  have hbl : b.length = (wrapsT l).length + p.length := by rw [hb, List.length_append]
  have hsub : IntKind.i64.wrap ((((wrapsT l).length + p.length : Nat) : Int) - (p.length : Int)) = ((wrapsT l).length : Nat) := by
   rw [List.length_append] at hl
   rw [wrap_i64 (by omega) (by omega)]; omega
  simp only [go_sem, ↓appR_hide]
  refine CL.of (f135_short hp) ?_
  rintro _ _ ⟨ev, rfl, L, rfl, hev⟩
  rcases hev with rfl | ⟨j, wr, x, rfl, hj⟩
  ·simp only [go_sem, ↓appR_hide, Heap.ext_append]
   refine CL.of (f113_some (get_lit (i := L.length + 1) (by rw [List.getElem?_cons_succ, List.getElem?_append_right (Nat.le_refl _), Nat.sub_self]; rfl)) 11) ?_
   rintro _ G' ⟨rfl, hG⟩; rw [hG]; clear hG
   simp only [go_sem, ↓appR_hide, hbl, hsub]
   exact ⟨_, rfl, all_end hok⟩
  ·have hj2 : (H.ext (outB 1 (strsV l) :: (L ++ [Blk.row true 1 [[AV.int IntKind.i64 0]]]))).get j = some (.row wr 2 [[x, .iface 125 (.int .i64 11)]]) := by
    have := Heap.get_ext_old (Heap.ok_ext (Heap.ok_ext hok [outB 1 (strsV l)]) L) hj [Blk.row true 1 [[AV.int IntKind.i64 0]]]
    rw [Heap.ext_append, Heap.ext_append] at this
    exact this
   simp only [go_sem, ↓appR_hide, Heap.ext_append]
   refine CL.of (f113_fault (get_lit (i := L.length + 1) (by rw [List.getElem?_cons_succ, List.getElem?_append_right (Nat.le_refl _), Nat.sub_self]; rfl)) hj2) ?_
   rintro _ G' ⟨rfl, hG⟩; rw [hG]; clear hG
   simp only [go_sem, ↓appR_hide, hbl, hsub]
   exact ⟨_, rfl, all_end hok⟩
end Go.Proofs
namespace Go.Proofs
open Go Go.Ev
variable {H G : Heap} {kd : K}
theorem min_int {β : Type} (k : IntKind) (a b : Int) (f : β) (c : AV → β) : mm2 false (.int k a) (.int k b) f c = c (.int k (min a b)) := by
 show bif' false (ltI a b fun z => bif' z (c (.int k b)) (c (.int k a))) (ltI b a fun z => bif' z (c (.int k b)) (c (.int k a))) = _
 rw [bif_false, ltI_eq, bif_eq]
 by_cases h : b < a
 ·rw [decide_eq_true h, if_pos rfl, Int.min_eq_right (by omega)]
 ·rw [decide_eq_false h, if_neg (by decide), Int.min_eq_left (by omega)]
theorem drop0 {β : Type} (b : List Nat) (f : β) (c : List Nat → β) : dropC f 0 b c = c b := by rw [dropC_eq, if_pos (Nat.zero_le _), List.drop_zero]
theorem f42_ok (hok : H.ok) {bs : List Nat} {n k : Nat} (hd : H.get kd = some (.row true 2 [[.str bs, .int .i64 n]])) (hn : n ≤ bs.length) (hb : bs.length < 1000000) (hk : k < 1000000) :
  FnOk Tryz.prog 42 [.ptr kd 0, .int .i64 k] H fun r G => r = .tup [] ∧ G = H.set kd (.row true 2 [[.str (bs.take (bs.length - n + min k n)), .int .i64 0]]) := by
 refine FnOk.of_WW Tryz.func42 rfl C42ok R42ok E0 good_E0 ?_
 have hd' := fun L => Heap.get_ext_old hok hd L
 have hset := fun b (l : List Blk) (α : Type) (c' : Heap → α) => Heap.setC_here hok hd b l c'
 have hget := fun b L => Heap.get_set_here hok hd b L
 have hset2 := fun b d (l : List Blk) (α : Type) (c' : Heap → α) => Heap.setC_set_here (α := α) hok hd b d l c'
 have hmax : max (k : Int) 0 = (k : Int) := by omega
 obtain ⟨m, hm⟩ : ∃ m, m = min k n := ⟨_, rfl⟩
 have hmin : min (k : Int) (n : Int) = (m : Int) := by omega
 have w1 : IntKind.i64.wrap ((bs.length : Int) - (n : Int)) = ((bs.length - n : Nat) : Int) := by rw [wrap_i64 (by omega) (by omega)]; omega
 have w2 : IntKind.i64.wrap (((bs.length - n : Nat) : Int) + (m : Int)) = ((bs.length - n + m : Nat) : Int) := by rw [wrap_i64 (by omega) (by omega)]; omega
 have ht : ∀ {β : Type} (f : β) (c : List Nat → β), takeC f (bs.length - n + m) bs c = c (bs.take (bs.length - n + m)) := fun f c => by rw [takeC_eq, if_pos (by omega)]
 have p0 : (0 : Int) ≤ ((bs.length - n + m : Nat) : Int) := by omega
 rw [← hm]
 have q0 : bs.length - n + m ≤ bs.length := by omega
 simp only [go_sem, C42, hd', hset, hget, hset2, hmax, min_int, hmin, w1, w2, ht, p0, Int.toNat_natCast, drop0, Nat.sub_zero, Nat.zero_le, q0]
 rfl
theorem f64_ok (hok : H.ok) {bs cs : List Nat} {n : AV} (hd : H.get kd = some (.row true 2 [[.str bs, n]])) (hb : cs.length ≤ 200000) :
  FnOk Tryz.prog 64 [.ptr kd 0, .str cs] H fun r G => r = .nili ∧ G = H.set kd (.row true 2 [[.str cs, .int .i64 0]]) := by
 refine FnOk.of_WW Tryz.func64 rfl C64ok R64ok E0 good_E0 ?_
 have hd' := fun L => Heap.get_ext_old hok hd L
 have hset := fun b (l : List Blk) (α : Type) (c' : Heap → α) => Heap.setC_here hok hd b l c'
 have hget := fun b L => Heap.get_set_here hok hd b L
 have hset2 := fun b d (l : List Blk) (α : Type) (c' : Heap → α) => Heap.setC_set_here (α := α) hok hd b d l c'
 simp only [go_sem, C64, hd']
 refine CL.of (f136_ok hb) ?_
 rintro _ G' ⟨rfl, hG⟩; rw [hG]; clear hG
 simp only [go_sem, hd', hset, hget, hset2]
 rfl
theorem f24_ok (hok : H.ok) {l : List (List Nat)} {p : List Nat} (hp : tornT p) (hn : l.length < 100000) (hl : (wrapsT l ++ p).length < 200001) (hs : ∀ s ∈ l, s.length < 200001) (hd : H.get kd = some (.row true 2 [[.str (wrapsT l ++ p), .int .i64 0]])) :
  FnOk Tryz.prog 24 [.ptr kd 0] H fun r G => ∃ v kj, r = .tup [.ptr kj 0, v, .nili] ∧ G.ok ∧ Arr G 1 v (strsV l) ∧ G.get kd = some (.row true 2 [[.str (wrapsT l), .int .i64 0]]) ∧ G.get kj = some (.row true 2 [[.ptr kd 0, .int .i64 l.length]]) ∧ Kp [kd] H G := by
 refine FnOk.of_WW Tryz.func24 rfl C24ok R24ok E0 good_E0 ?_
 have hwl : (wrapsT l ++ p).length = (wrapsT l).length + p.length := List.length_append
 have htk : ∀ {β : Type} (f : β) (c : List Nat → β), takeC f (wrapsT l).length (wrapsT l ++ p) c = c (wrapsT l) := fun f c => by rw [takeC_eq, if_pos (by omega), List.take_left]
 simp only [go_sem, C24]
 refine CL.of (f62_ok (Heap.get_ext_old hok hd _)) ?_
 rintro _ G' ⟨rfl, hG⟩; rw [hG]; clear hG
 simp only [go_sem]
 refine CL.of (f63_ok (Heap.ok_ext hok _) hp hn (by omega) hs) ?_
 rintro _ G ⟨v, rfl, hGok, hA, hK⟩
 have hdG := hK.keep _ _ (by simp) (Heap.get_ext_old hok hd [])
 have hlen := fun G => hA.len G
 simp only [strsV, List.length_map] at hlen
 have hq0 : (wrapsT l).length ≤ (wrapsT l).length + p.length := Nat.le_add_right _ _
 refine WW.nil ?_
 have hset := fun b (l : List Blk) (α : Type) (c' : Heap → α) => Heap.setC_here hGok hdG b l c'
 simp only [go_sem, hwl, drop0, Nat.sub_zero, Nat.zero_le, hq0, List.take_left, hlen]
 refine ⟨fun hlt => ?_, fun hlt => ?_⟩
 ·refine CL.of (f64_ok (Heap.ok_ext hGok _) (Heap.get_ext_old hGok hdG _) (cs := wrapsT l) (by omega)) ?_
  rintro _ G' ⟨rfl, hG⟩; rw [Heap.ext_nil] at hG; rw [hG]; clear hG
  refine WW.nil ?_
  simp only [go_sem]
  refine CL.of (f65_ok none 19) ?_
  rintro _ G' ⟨rfl, hG⟩; rw [hG]; clear hG
  simp only [go_sem, hlen]
  have hS : (G.set kd (.row true 2 [[.str (wrapsT l), .int .i64 0]])).ok := Heap.ok_set hGok hdG
  have hKS : Kp [kd] G (G.set kd (.row true 2 [[.str (wrapsT l), .int .i64 0]])) := ⟨fun j c hj hc => by rw [Heap.get_set, if_neg (by rintro rfl; simp at hj)]; exact hc, Nat.le_refl _⟩
  have hgS : (G.set kd (.row true 2 [[.str (wrapsT l), .int .i64 0]])).get kd = some (.row true 2 [[.str (wrapsT l), .int .i64 0]]) := by rw [Heap.get_set, if_pos rfl]
  have hAS := arr_kp hA hKS fun j hj wr rows hg => by rw [List.mem_singleton.1 hj, hdG] at hg; cases hg
  have hKE : ∀ L : List Blk, Kp [kd] (G.set kd (.row true 2 [[.str (wrapsT l), .int .i64 0]])) ((G.set kd (.row true 2 [[.str (wrapsT l), .int .i64 0]])).ext L) := fun L => ⟨fun j c _ hc => Heap.get_ext_old hS hc L, by rw [Heap.nx_ext, Heap.toNat_key]; exact Nat.le_add_right _ _⟩
  exact ⟨v, _, rfl, Heap.ok_ext hS _, hAS.ext _, Heap.get_ext_old hS hgS _, get_lit (i := 0) rfl, ((hK.wk (by simp)).trans hKS).trans (hKE _)⟩
 ·have hp0 : p = [] := List.eq_nil_of_length_eq_zero (by omega)
  subst hp0
  rw [List.append_nil] at hdG
  have hKE : ∀ L : List Blk, Kp [kd] G (G.ext L) := fun L => ⟨fun j c _ hc => Heap.get_ext_old hGok hc L, by rw [Heap.nx_ext, Heap.toNat_key]; exact Nat.le_add_right _ _⟩
  exact ⟨v, _, rfl, Heap.ok_ext hGok _, hA.ext _, Heap.get_ext_old hGok hdG _, get_lit (i := 0) rfl, (hK.wk (by simp)).trans (hKE _)⟩
end Go.Proofs
namespace Go.Proofs
open Go Go.Ev
variable {H : Heap}
theorem run_one {f : FuncId} {args : List AV} {b : Blk} {k0 : K} {v1 : AV} (h : runB f args [] [b] [k0] v1 = true) (ha : AV.rens (rk [] .z) args = args) (hb : b.live) (hbr : ∀ ρ, b.ren ρ = b) : FnOk Tryz.prog f args H fun r G => ∃ k, r = v1.ren (rk [k] .z) ∧ G.ok ∧ G.get k = some b ∧ Kp [] H G := by
 obtain ⟨h1, h2⟩ := runB_t h
 have hF : Fit H [] [] := ⟨rfl, List.nodup_nil, by simp, by simp, by simp⟩
 have := FnOk.run good_XL h1 h2 hF
 rw [ha] at this
 refine this.mono ?_
 rintro v G ⟨κ, rfl, hX⟩
 obtain ⟨k, rfl⟩ : ∃ k, κ = [k] := by
  have := hX.fit.len
  match κ, this with
  | [k], _ => exact ⟨k, rfl⟩
 exact ⟨k, rfl, hX.ok, by have := hX.fit.blk 0 _ _ rfl rfl hb; rwa [hbr] at this, ⟨fun j c _ hj => hX.keep j c hj (by simp), hX.nx⟩⟩
def baseT : List Nat := [1, 0, 0, 0, 0, 0, 0, 0, 1, 13, 113, 135, 31, 170, 8, 1, 1, 0, 0, 0, 0, 0, 0, 0]
def baseR (v : AV) : List AV := [.int .i64 1, .int .i64 0, .int .i64 0, .int .i64 0, .int .i64 0, .int .i64 0, .int .i64 0, .str [], .str [], .str [], .int .i64 0, .nils, .str [], .str [], v, .nils]
theorem wrap_base : wrapT baseT = bsa := by kernel_rfl
theorem read_base : runB 43 [.str baseT] [] [rowQ] [K.z.o.o.o.i.o] (.tup [.agg (baseR (.slice .z 0 1 8 false 1)), .nili]) = true := by kernel_rfl
theorem f43_base : FnOk Tryz.prog 43 [.str baseT] H fun r G => ∃ k, r = .tup [.agg (baseR (.slice k 0 1 8 false 1)), .nili] ∧ G.ok ∧ G.get k = some rowQ ∧ Kp [] H G := by
 refine (run_one read_base rfl trivial (fun ρ => rfl)).mono ?_
 rintro r G ⟨k, rfl, h⟩
 exact ⟨k, by simp only [baseR, AV.ren, AV.rens]; rfl, h⟩
def recI : List AV → Nat
 | .int _ k :: .int _ a :: .int _ b :: _ => if k = 1 then 0 else (3 * (b - 1) + a).toNat + 1
 | _ => 0
structure Rec (j : Nat) (T : List Nat) (s t : Sh) : Prop where
 rd : ∀ H : Heap, H.ok → FnOk Tryz.prog 43 [.str T] H fun r G => ∃ rl w, r = .tup [.agg rl, .nili] ∧ recI rl = j ∧ rl.length = 16 ∧ G.ok ∧ Kp [] H G ∧ okW w G ∧ ∀ (G2 : Heap) (kh : K) (lv : AV) (x : Sh), isHd G2 kh lv .nils [x] [] → Rel x s → okW w G2 → ∃ a X, FnOk Tryz.prog 44 [.ptr kh 0, .agg rl] G2 (fun r G' => r = .tup [.agg a, .nili] ∧ G' = X) ∧ (∃ lv' z, isHd X kh lv' .nils [z] [] ∧ Rel z t) ∧ Nx kh G2 X
theorem Does.todo {ses id kd n av : Int} {key to val fk : List Nat} {wv : AV} {w : Option (K × List (List AV))} {s t : Sh} (D : Does ses id kd key to val n wv w fk s t av) (G2 : Heap) (kh : K) (lv : AV) (x : Sh) (h : isHd G2 kh lv .nils [x] []) (hR : Rel x s) (hw : okW w G2) :
  ∃ a X, FnOk Tryz.prog 44 [.ptr kh 0, .agg (reqL ses id (opL kd key to val n wv))] G2 (fun r G' => r = .tup [.agg a, .nili] ∧ G' = X) ∧ (∃ lv' z, isHd X kh lv' .nils [z] [] ∧ Rel z t) ∧ Nx kh G2 X := by
 obtain ⟨X, h1, h2, h3⟩ := f44_askE D h hR hw
 exact ⟨_, X, h1, h2, h3⟩
section
variable {N : Nat} {P : Int → Int → Prop} {s : Sh} {i k : Nat}
theorem put_rec (h : Gd N P s) (hN : N < 800) (hi : i < 20) (hk : k < 5) (hn : ∀ a b, P a b → a = ((i % 3 : Nat) : Int) → b < ((i / 3 + 1 : Nat) : Int)) :
  Rec (i + 1) (recT (i % 3) (i / 3 + 1) (97 + k) (65 + i)) s (askS s [97 + k] [65 + i] ((i % 3 : Nat) : Int) ((i / 3 + 1 : Nat) : Int) .z .z .z) where
 rd := fun H hok => by
  have D := h.does (by omega) (k := [97 + k]) (v := [65 + i]) ⟨List.cons_ne_nil _ _, by show (1 : Int) ≤ 8; decide⟩ (by show (1 : Int) ≤ 12; decide) (ses := ((i % 3 : Nat) : Int)) (id := ((i / 3 + 1 : Nat) : Int)) ⟨by omega, by omega⟩ ⟨by omega, by omega⟩ hn
  refine (FnOk.of_ev1 good_XL rfl rfl (read_put hi hk)).mono ?_
  rintro r G ⟨rfl, rfl⟩
  exact ⟨_, none, rfl, by show (if (2 : Int) = 1 then 0 else (3 * (((i / 3 + 1 : Nat) : Int) - 1) + ((i % 3 : Nat) : Int)).toNat + 1) = i + 1; rw [if_neg (by decide)]; omega, rfl, hok, ⟨fun _ _ _ h => h, Nat.le_refl _⟩, (fun _ _ e => by cases e), D.todo⟩
theorem bat_rec (h : Gd N P s) (hN : N < 800) (hi : i < 20) (hn : ∀ a b, P a b → a = ((i % 3 : Nat) : Int) → b < ((i / 3 + 1 : Nat) : Int)) :
  Rec (i + 1) (batT (i % 3) (i / 3 + 1) (65 + i)) s (batA s [97] [98] [99] [65 + i] ((i % 3 : Nat) : Int) ((i / 3 + 1 : Nat) : Int) .z .z .z) where
 rd := fun H hok => by
  refine (run_one (allN_of read_bat i hi) rfl trivial (fun ρ => rfl)).mono ?_
  rintro r G ⟨kw, rfl, h1, h2, h3⟩
  have D := h.doesB (by omega) (x := 65 + i) (ses := ((i % 3 : Nat) : Int)) (id := ((i / 3 + 1 : Nat) : Int)) ⟨by omega, by omega⟩ ⟨by omega, by omega⟩ hn kw false
  refine ⟨reqL ((i % 3 : Nat) : Int) ((i / 3 + 1 : Nat) : Int) (batL (.slice kw 0 3 3 false 3)), _, by simp only [reqL, batL, opL, List.cons_append, List.nil_append, AV.ren, AV.rens]; rfl, by show (if (2 : Int) = 1 then 0 else (3 * (((i / 3 + 1 : Nat) : Int) - 1) + ((i % 3 : Nat) : Int)).toNat + 1) = i + 1; rw [if_neg (by decide)]; omega, rfl, h1, h3, fun j rows e => ?_, D.todo⟩
  cases e; exact h2
end
end Go.Proofs
namespace Go.Proofs
open Go Go.Ev
section
variable {G : Heap} {k : K}
theorem f109_baseX (h : isHd G k .nils .nils [] []) {kk : K} (hg0 : G.get kk = some rowQ) :
  ∃ X, FnOk Tryz.prog 109 [.ptr k 0, .agg [.int .i64 1, .int .i64 0, .int .i64 0, .int .i64 0, .int .i64 0, .int .i64 0, .int .i64 0, .str [], .str [], .str [], .int .i64 0, .nils, .str [], .str [], .slice kk 0 1 8 false 1, .nils]] G (fun r G' => r = .nili ∧ G' = X) ∧ (∃ lv', isHd X k lv' .nils [nS 1 1 [] [] false] []) ∧ Nx k G X := by
 have hk : ∀ L, (G.ext L).get k = _ := fun L => Heap.get_ext_old h.ok h.row L
 have hset := fun b (l : List Blk) (α : Type) (c' : Heap → α) => Heap.setC_here h.ok h.row b l c'
 have hset2 := fun b d (l : List Blk) (α : Type) (c' : Heap → α) => Heap.setC_set_here h.ok h.row b d l c'
 have hk2 := fun b (l : List Blk) => Heap.get_set_here h.ok h.row b l
 have hA : Arr G 8 (.slice kk 0 1 8 false 1) [(nS 1 1 [] [] false).enc] := .inr ⟨kk, 0, false, 1, rfl, h.ok _ _ hg0, fun _ => ⟨0, true, _, rfl, hg0, rfl⟩⟩
 have hs : isSh (nS 1 1 [] [] false) := shOne 1 (by decide) (by decide)
 have hne : k ≠ kk := by
  rintro rfl
  have := h.row
  rw [hg0] at this
  cases this
 have hg1 : ∀ b L, ((G.set k b).ext L).get kk = some rowQ := fun b L => Heap.get_set_there h.ok hg0 hne b L
 have hg2 : ∀ L, (G.ext L).get kk = some rowQ := fun L => Heap.get_ext_old h.ok hg0 L
 have hw01 : IntKind.i64.wrap (0 + 1) = 1 := rfl
 have hp := fun L hj => isHd.put (hs' := [nS 1 1 [] [] false]) h (L := L) (j := 3) hj (fun x hx => by rw [List.mem_singleton.1 hx]; exact nS_ok ..) (fun x hx => by rw [List.mem_singleton.1 hx]; exact nS_small ..) (by show 1 ≤ 8; decide) 1 false
 refine ⟨?X, ?a, ?b⟩
 case a =>
  refine FnOk.of_WW Tryz.func109 rfl C109ok R109ok ECp good_ECp ?_
  simp only [go_sem, C109]
  refine CL.of (f168_one (nS_ok _ 1 1 [] [] false) hs (hA.ext _)) ?_
  rintro _ G' ⟨rfl, hG⟩; rw [hG]; clear hG
  simp only [go_sem]
  refine CL.of (clone_nil clo42) ?_
  rintro _ G' ⟨rfl, hG⟩; rw [hG]; clear hG
  simp only [go_sem, hk, hset, hset2, hk2]
  refine LL.un good_ECp 1 ?_
  simp only [go_sem, hg1, hk2, rowQ, ec41, hset2, hw01]
  refine CL.of (f170_ok (hp _ (by rfl)) (Nat.le_refl 1)) ?_
  rintro _ G' ⟨rfl, hG⟩; rw [hG]; clear hG
  simp only [go_sem, hk2, List.length_cons, List.length_nil, Nat.zero_add]
  refine CL.of (f171_ok (gs := []) (.inl ⟨rfl, rfl⟩) (Nat.zero_le _) 172) ?_
  rintro _ G' ⟨rfl, hG⟩; rw [hG]; clear hG
  simp only [go_sem]
  exact rfl
 case b => exact ⟨⟨_, hp _ (by rfl)⟩, (Nx.set h.ok h.row _ _)⟩
theorem f44_baseX (h : isHd G k .nils .nils [] []) {kk : K} (hg0 : G.get kk = some rowQ) :
  ∃ X, FnOk Tryz.prog 44 [.ptr k 0, .agg [.int .i64 1, .int .i64 0, .int .i64 0, .int .i64 0, .int .i64 0, .int .i64 0, .int .i64 0, .str [], .str [], .str [], .int .i64 0, .nils, .str [], .str [], .slice kk 0 1 8 false 1, .nils]] G (fun r G' => r = .tup [.agg zA, .nili] ∧ G' = X) ∧ (∃ lv', isHd X k lv' .nils [nS 1 1 [] [] false] []) ∧ Nx k G X := by
 obtain ⟨L0, hL0⟩ : ∃ L0 : List Blk, L0 = [.row true 16 [[.int .i64 1, .int .i64 0, .int .i64 0, .int .i64 0, .int .i64 0, .int .i64 0, .int .i64 0, .str [], .str [], .str [], .int .i64 0, .nils, .str [], .str [], .slice kk 0 1 8 false 1, .nils]], .row true 4 [zA], .row true 2 [[.nils, .nils]], .row true 4 [zA]] := ⟨_, rfl⟩
 obtain ⟨G1, hx, ⟨lv', hhd⟩, hnx⟩ := f109_baseX (h.ext L0) (Heap.get_ext_old h.ok hg0 _)
 have e1 : G1.get (G.key 1) = some (.row true 4 [[.int .i64 0, .str [], .int .i64 0, .nils]]) := hnx.keep (G.key 1) _ (ne_key h.ok h.row 1) (by rw [hL0]; exact get_lit rfl)
 have e3 : G1.get (G.key 3) = some (.row true 4 [[.int .i64 0, .str [], .int .i64 0, .nils]]) := hnx.keep (G.key 3) _ (ne_key h.ok h.row 3) (by rw [hL0]; exact get_lit rfl)
 have g1 := fun L => Heap.get_ext_old hhd.ok e1 L
 have g3 := fun L => Heap.get_ext_old hhd.ok e3 L
 have s1 := fun b (l : List Blk) (α : Type) (c' : Heap → α) => Heap.setC_here hhd.ok e1 b l c'
 have k1 := fun b (l : List Blk) => Heap.get_set_here hhd.ok e1 b l
 have hk' : ∀ L, (G.ext L).get k = _ := fun L => Heap.get_ext_old h.ok h.row L
 refine ⟨_, ?a, ⟨lv', (hhd.cell e1 ?b).ext ?d⟩, ((Nx.ext h.ok _).trans hnx).cell h.ok hhd.ok e1 ?b ?d⟩
 rw [hL0] at hx
 refine FnOk.of_WW Tryz.func44 rfl C44ok R44ok E0 good_E0 ?_
 simp only [go_sem, C44, hk']
 refine CL.of hx ?_
 rintro _ G' ⟨rfl, hG⟩; rw [hG]; clear hG
 refine WW.nil ?_
 simp only [go_sem]
 refine CL.of (f113_none _) ?_
 rintro _ G' ⟨rfl, hG⟩; rw [hG]; clear hG
 simp only [go_sem]
 refine CL.of (f65_ok none 10) ?_
 rintro _ G' ⟨rfl, hG⟩; rw [hG]; clear hG
 simp only [go_sem, g1, g3, s1, k1]
 refine And.intro ?_ ?_
 ·exact rfl
 ·exact rfl
end
end Go.Proofs
namespace Go.Proofs
open Go Go.Ev
def crR (st : Nat → Sh) (f : FuncId) (args : List AV) (H : Heap) (v : AV) (X : Heap) : Prop := ∃ kh rl a lv z, args = [.ptr kh 0, .agg rl] ∧ v = .tup [.agg a, .nili] ∧ isHd X kh lv .nils [z] [] ∧ Rel z (st (recI rl)) ∧ Nx kh H X
def HoldI (st : Nat → Sh) (k : K) (i : Nat) (X : Heap) : Prop := (i = 0 ∧ isHd X k .nils .nils [] []) ∨ (0 < i ∧ ∃ lv z, isHd X k lv .nils [z] [] ∧ Rel z (st (i - 1)))
theorem HoldI.ok {st : Nat → Sh} {k : K} {i : Nat} {X : Heap} (h : HoldI st k i X) : X.ok := by
 rcases h with ⟨_, h⟩ | ⟨_, _, _, h, _⟩ <;> exact h.ok
theorem HoldI.row {st : Nat → Sh} {k : K} {i : Nat} {X : Heap} (h : HoldI st k i X) : ∃ a b, X.get k = some (.row true 2 [[a, b]]) := by
 rcases h with ⟨_, h⟩ | ⟨_, _, _, h, _⟩ <;> exact ⟨_, _, h.row⟩
theorem HoldI.kp {st : Nat → Sh} {k : K} {i : Nat} {X Y : Heap} (h : HoldI st k i X) (hk : Kp [] X Y) (hY : Y.ok) : HoldI st k i Y := by
 rcases h with ⟨a, h⟩ | ⟨a, lv, z, h, b⟩
 ·exact .inl ⟨a, h.kp hk hY (by simp)⟩
 ·exact .inr ⟨a, lv, z, h.kp hk hY (by simp), b⟩
theorem HoldI.ext {st : Nat → Sh} {k : K} {i : Nat} {X : Heap} (h : HoldI st k i X) (L : List Blk) : HoldI st k i (X.ext L) := by
 rcases h with ⟨a, h⟩ | ⟨a, lv, z, h, b⟩
 ·exact .inl ⟨a, h.ext L⟩
 ·exact .inr ⟨a, lv, z, h.ext L, b⟩
theorem len16 {l : List AV} (h : l.length = 16) : ∃ a b c d e f g h i j k m n o p q, l = [a, b, c, d, e, f, g, h, i, j, k, m, n, o, p, q] := by
 match l, h with
 | [a, b, c, d, e, f, g, h, i, j, k, m, n, o, p, q], _ => exact ⟨_, _, _, _, _, _, _, _, _, _, _, _, _, _, _, _, rfl⟩
theorem rel_new : Rel (nS 1 1 [] [] false) (nS 1 1 [] [] false) := ⟨⟨rfl, rfl, rfl, rfl, rfl, rfl, rfl, rfl⟩, fun _ => rfl⟩
theorem step43 {l : List (List Nat)} {st : Nat → Sh} (h0 : l[0]? = some baseT) (hst0 : st 0 = nS 1 1 [] [] false) (hst : ∀ j T, l[j + 1]? = some T → Rec (j + 1) T (st j) (st (j + 1))) (k : K) {i : Nat} {T : List Nat} (hi : l[i]? = some T) {X : Heap} (hok : X.ok) :
  FnOk Tryz.prog 43 [.str T] X fun r G => ∃ rl, r = .tup [.agg rl, .nili] ∧ rl.length = 16 ∧ G.ok ∧ Kp [] X G ∧ recI rl = i ∧ ∀ L, HoldI st k i (G.ext L) → ∃ v Y, FnOk Tryz.prog 44 [.ptr k 0, .agg rl] (G.ext L) (fun r G' => r = v ∧ G' = Y) ∧ crR st 44 [.ptr k 0, .agg rl] (G.ext L) v Y := by
 cases i with
 | zero =>
  rw [h0] at hi
  cases hi
  refine f43_base.mono ?_
  rintro r G ⟨kk, rfl, g1, g2, g3⟩
  refine ⟨_, rfl, rfl, g1, g3, rfl, fun L hh => ?_⟩
  rcases hh with ⟨_, hh⟩ | ⟨hh, _⟩
  ·obtain ⟨Y, q1, ⟨lv, q2⟩, q3⟩ := f44_baseX hh (Heap.get_ext_old g1 g2 L)
   exact ⟨_, Y, q1, k, _, _, lv, _, rfl, rfl, q2, by show Rel _ (st 0); rw [hst0]; exact rel_new, q3⟩
  ·exact absurd hh (Nat.lt_irrefl 0)
 | succ j =>
  refine ((hst j T hi).rd X hok).mono ?_
  rintro r G ⟨rl, w, rfl, g1, g2, g3, g4, g5, g6⟩
  refine ⟨rl, rfl, g2, g3, g4, g1, fun L hh => ?_⟩
  rcases hh with ⟨hh, _⟩ | ⟨_, lv, z, hh, hR⟩
  ·exact absurd hh (Nat.succ_ne_zero j)
  ·obtain ⟨a, Y, q1, ⟨lv', z', q2, q3⟩, q4⟩ := g6 (G.ext L) k lv z hh hR (g5.ext g3 L)
   exact ⟨_, Y, q1, k, rl, a, lv', z', rfl, rfl, q2, by rw [g1]; exact q3, q4⟩
structure CrI (M : Heap) (kn kd kj kh : K) (rn rd rj : Blk) (v : AV) (l : List (List Nat)) (st : Nat → Sh) (i : Nat) (X : Heap) : Prop where
 le : i ≤ l.length
 n : X.get kn = some rn
 d : X.get kd = some rd
 j : X.get kj = some rj
 v : Arr X 1 v (strsV l)
 h : HoldI st kh i X
 kp : Kp [kn, kd] M X
theorem CrI.step {M : Heap} {kn kd kj kh : K} {rn rd rj : Blk} {v lv : AV} {l : List (List Nat)} {st : Nat → Sh} {i : Nat} {X G Y : Heap} {z : Sh} {L : List Blk} (h : CrI M kn kd kj kh rn rd rj v l st i X) (hi : i < l.length) (hn : kh ≠ kn) (hd : kh ≠ kd) (hj : kh ≠ kj) (hM : M.ok) (hf : M.nx.toNat ≤ kh.toNat) (kp : Kp [] X G) (gok : G.ok)
  (hnx : Nx kh (G.ext L) Y) (hh : isHd Y kh lv .nils [z] []) (hR : Rel z (st i)) : CrI M kn kd kj kh rn rd rj v l st (i + 1) Y := by
 have ka : ∀ j b, kh ≠ j → X.get j = some b → Y.get j = some b := fun j b hj hb => hnx.keep j b hj (Heap.get_ext_old gok (kp.keep j b (by simp) hb) L)
 have hG : HoldI st kh i (G.ext L) := (h.h.kp kp gok).ext L
 obtain ⟨a, b, hrow⟩ := hG.row
 refine ⟨hi, ka _ _ hn h.n, ka _ _ hd h.d, ka _ _ hj h.j, hnx.arr hrow (by decide) ((arr_kp h.v kp (by simp)).ext L), .inr ⟨Nat.succ_pos i, lv, z, hh, hR⟩, ⟨fun j c hm hc => ka j c (fun e => ?_) (h.kp.keep j c hm hc), Nat.le_trans h.kp.le (Nat.le_trans kp.le (Nat.le_trans ?_ hnx.le))⟩⟩
 ·have := hM _ _ hc
  rw [← e] at this; omega
 ·rw [Heap.nx_ext, Heap.toNat_key]; exact Nat.le_add_right _ _
section
variable {M : Heap} {kn kd kj kh : K} {l : List (List Nat)} {p bs : List Nat} {st : Nat → Sh}
theorem f11_ok {n m keep : Nat} {ws : List (List AV)} {x5 x6 x7 : AV} {s : Sh} (h : isNd M kn kd kj kh bs n m ws x5 x6 x7 s) (hn : n ≤ bs.length) (hb : bs.length < 200001) (hk : keep < 1000000) (ht : bs.take (bs.length - n + min keep n) = wrapsT l ++ p) (hp : tornT p) (h0 : l[0]? = some baseT) (hl : l.length < 1000) (hs : ∀ s ∈ l, s.length < 200001)
  (hst0 : st 0 = nS 1 1 [] [] false) (hst : ∀ j T, l[j + 1]? = some T → Rec (j + 1) T (st j) (st (j + 1))) :
  FnOk Tryz.prog 11 [.ptr kn 0, .int .i64 keep] M fun r G => r = .tup [] ∧ ∃ kj' kh' km z, isNd G kn kd kj' kh' (wrapsT l) 0 l.length [] x5 x6 (.map km) z ∧ Rel z (st (l.length - 1)) ∧ Kp [kn, kd] M G := by
 obtain ⟨wv, hnr, hw⟩ := h.row
 have hn' := fun L => Heap.get_ext_old h.ok hnr L
 have hnd : kn ≠ kd := by rintro rfl; rw [h.disk] at hnr; cases hnr
 obtain ⟨M1, hM1⟩ : ∃ M1, M1 = M.set kd (.row true 2 [[.str (wrapsT l ++ p), .int .i64 0]]) := ⟨_, rfl⟩
 have ok1 : M1.ok := by rw [hM1]; exact Heap.ok_set h.ok h.disk
 have hd1 : M1.get kd = some (.row true 2 [[.str (wrapsT l ++ p), .int .i64 0]]) := by rw [hM1, Heap.get_set, if_pos rfl]
 have hnr1 : M1.get kn = some (.row true 8 [[.int .i64 0, .ptr kd 0, .ptr kj 0, .ptr kh 0, wv, x5, x6, x7]]) := by rw [hM1, Heap.get_set, if_neg (Ne.symm hnd)]; exact hnr
 have kp1 : Kp [kn, kd] M M1 := by rw [hM1]; exact ⟨fun j c hj hc => by rw [Heap.get_set, if_neg (by rintro rfl; simp at hj)]; exact hc, by rw [Heap.nx_set]; exact Nat.le_refl _⟩
 have h42 := f42_ok h.ok h.disk hn (by omega) hk
 rw [ht, ← hM1] at h42
 refine FnOk.of_WW Tryz.func11 rfl C11ok R11ok (EC Tryz.prog (crR st)) (good_EC _ _) ?_
 simp only [go_sem, C11, hn']
 refine CL.of (by rw [Heap.ext_nil]; exact h42) ?_
 rintro _ G' ⟨rfl, hG⟩; rw [hG]; clear hG
 refine WW.nil ?_
 have gn1 := fun L => Heap.get_ext_old ok1 hnr1 L
 have sn1 := fun b (l : List Blk) (α : Type) (c' : Heap → α) => Heap.setC_here ok1 hnr1 b l c'
 have kn1 := fun b (l : List Blk) => Heap.get_set_here ok1 hnr1 b l
 have ssn1 := fun b d (l : List Blk) (α : Type) (c' : Heap → α) => Heap.setC_set_here (α := α) ok1 hnr1 b d l c'
 simp only [go_sem, gn1]
 refine CL.of f23_ok ?_
 rintro _ G' ⟨rfl, hG⟩; rw [hG]; clear hG
 simp only [go_sem, gn1, sn1, kn1, ssn1]
 refine CL.of (f24_ok (Heap.ok_ext (Heap.ok_set ok1 hnr1) _) hp (by omega) (by rw [← ht]; exact Nat.lt_of_le_of_lt (List.length_take_le' _ _) hb) hs (Heap.get_set_there ok1 hd1 hnd _ _)) ?_
 rintro _ G ⟨v, kj', rfl, gok, hA, hgd, hgj, hK⟩
 have e0 := hK.keep kn _ (by simp [hnd]) (Heap.get_set_here ok1 hnr1 _ _)
 have e2 := hK.keep (M1.key 1) _ (fun hm => by
  have := ok1 _ _ hd1
  rw [List.mem_singleton.1 hm |>.symm, Heap.toNat_key] at this; omega) ((Heap.get_key_set (by show 1 < 2; decide)).trans rfl)
 have gn2 := fun L => Heap.get_ext_old gok e0 L
 have sn2 := fun b (l : List Blk) (α : Type) (c' : Heap → α) => Heap.setC_here gok e0 b l c'
 have kn2 := fun b (l : List Blk) => Heap.get_set_here gok e0 b l
 have ssn2 := fun b d (l : List Blk) (α : Type) (c' : Heap → α) => Heap.setC_set_here (α := α) gok e0 b d l c'
 have hlen := fun G => hA.len G
 simp only [strsV, List.length_map] at hlen
 refine WW.nil ?_
 simp only [go_sem, gn2, sn2, kn2, ssn2, hlen]
 have hkey : (M1.ext [Blk.map []]).key 0 = M1.key 1 := Heap.key_ext ..
 simp only [hkey] at e0 e2 gn2 sn2 kn2 ssn2 ⊢
 obtain ⟨rn, hrn⟩ : ∃ rn : Blk, rn = .row true 8 [[.int .i64 0, .ptr kd 0, .ptr kj' 0, .ptr (M1.key 1) 0, .nils, x5, x6, .map (M1.key 0)]] := ⟨_, rfl⟩
 have hMnx : M1.nx = M.nx := by rw [hM1, Heap.nx_set]
 have hf : M.nx.toNat ≤ (M1.key 1).toNat := by rw [Heap.toNat_key, hMnx]; exact Nat.le_add_right _ _
 have hkn : M1.key 1 ≠ kn := fun e => by have := h.ok _ _ hnr; rw [← e] at this; omega
 have hkd : M1.key 1 ≠ kd := fun e => by have := h.ok _ _ h.disk; rw [← e] at this; omega
 have hkj : M1.key 1 ≠ kj' := fun e => by rw [← e, e2] at hgj; cases hgj
 have hjn : kj' ≠ kn := fun e => by rw [e, e0] at hgj; cases hgj
 have okS : (G.set kn rn).ok := Heap.ok_set gok e0
 have kpS : Kp [kn] G (G.set kn rn) := ⟨fun j c hj hc => by rw [Heap.get_set, if_neg (by rintro rfl; simp at hj)]; exact hc, by rw [Heap.nx_set]; exact Nat.le_refl _⟩
 have hI0 : CrI M kn kd kj' (M1.key 1) rn (.row true 2 [[.str (wrapsT l), .int .i64 0]]) (.row true 2 [[.ptr kd 0, .int .i64 l.length]]) v l st 0 (G.set kn rn) := by
  refine ⟨Nat.zero_le _, by rw [Heap.get_set, if_pos rfl], kpS.keep _ _ (by simp [Ne.symm hnd]) hgd, kpS.keep _ _ (by simp [hjn]) hgj, arr_kp hA kpS (fun j hj wr rows hg => by rw [List.mem_singleton.1 hj, e0] at hg; cases hg), .inl ⟨rfl, okS, kpS.keep _ _ (by simp [hkn]) e2, .inl ⟨rfl, rfl⟩, .inl ⟨rfl, rfl⟩, by simp, by simp, by simp⟩, ⟨fun j c hj hc => ?_, ?_⟩⟩
  ·refine kpS.keep _ _ (fun hm => hj (by rw [List.mem_singleton.1 hm]; simp)) (hK.keep _ _ (fun hm => hj (by rw [List.mem_singleton.1 hm]; simp)) ?_)
   exact Heap.get_set_there ok1 (kp1.keep _ _ hj hc) (fun e => hj (by rw [← e]; simp)) _ _
  ·rw [Heap.nx_set]
   refine Nat.le_trans ?_ hK.le
   rw [Heap.nx_ext, Heap.toNat_key, Heap.nx_set, hMnx]
   exact Nat.le_add_right _ _
 rw [← hrn]
 refine LL.sth (good_EC _ _) (fun i : Nat => l.length - i) (fun i X => CrI M kn kd kj' (M1.key 1) rn (.row true 2 [[.str (wrapsT l), .int .i64 0]]) (.row true 2 [[.ptr kd 0, .int .i64 l.length]]) v l st i X)
  (fun i => [(K.z, .ptr kn 0), (K.z.o.i.o.i.o, v), (K.z.o.i.o.i.i, .int .i64 l.length), (K.z.o.i.i.o.o, .int .i64 i)]) ?_ 0 (by rw [Heap.ext_nil]; exact hI0) (Slots.all (by simp only [go_sem]; first | done | rfl | trace_state))
 rintro i X hI
 by_cases hlt : i < l.length
 ·have okX := hI.h.ok
  obtain ⟨kk, r, ex', cap', wr, rows, hv, hrho, hgo, hrow⟩ := hI.v.at okX (j := i) (by rw [strsV, List.length_map]; exact hlt)
  simp only [strsV, List.length_map, List.getElem_map] at hv hrow
  have hget : l[i]? = some l[i] := List.getElem?_eq_getElem hlt
  generalize l[i] = T at hget hrow
  have hw := wrap_succ (n := i) (by omega)
  have hci : (i : Int) < (l.length : Int) := by omega
  have hsi : i + 1 ≤ l.length := hlt
  subst hv
  simp only [go_sem, hci, hsi, hgo, hrow]
  refine CL.of (step43 h0 hst0 hst (M1.key 1) hget (Heap.ok_ext okX _)) ?_
  rintro _ G2 ⟨rl, rfl, hrl, gok2, kp2, hrI, h44⟩
  rw [Heap.ext_nil] at kp2
  obtain ⟨r0, r1, r2, r3, r4, r5, r6, r7, r8, r9, r10, r11, r12, r13, r14, r15, rfl⟩ := len16 hrl
  have g2n := fun L => Heap.get_ext_old gok2 (kp2.keep _ _ (by simp) hI.n) L
  rw [hrn] at g2n
  refine WW.nil ?_
  simp only [go_sem, g2n]
  obtain ⟨v0, Y0, hy1, hy2⟩ := h44 [.row true 16 [[r0, r1, r2, r3, r4, r5, r6, r7, r8, r9, r10, r11, r12, r13, r14, r15]]] ((hI.h.kp kp2 gok2).ext _)
  obtain ⟨v1, Y, hEC, hcr⟩ := EC_ex hy1 hy2
  obtain ⟨kh2, rl2, a, lv, z, hargs, rfl, hh, hR, hnx⟩ := hcr
  injection hargs with q1 q2
  injection q1 with q1
  injection q2 with q2 _
  injection q2 with q2
  subst q1 q2
  rw [hrI] at hR
  have hst := hI.step hlt hkn hkd hkj h.ok hf kp2 gok2 hnx hh hR
  simp only [go_sem, hEC, hw]
  refine ⟨i + 1, by show l.length - (i + 1) < l.length - i; omega, ?_, Slots.all (by simp only [go_sem, hw]; first | done | rfl | trace_state)⟩
  first | exact hst | (rw [Heap.ext_nil]; exact hst)
 ·obtain rfl : i = l.length := Nat.le_antisymm hI.le (Nat.le_of_not_lt hlt)
  have hci : ¬ ((l.length : Int) < (l.length : Int)) := by omega
  have hpos : 0 < l.length := (List.getElem?_eq_some_iff.1 h0).1
  simp only [go_sem, hci]
  rcases hI.h with ⟨e, _⟩ | ⟨_, lv, z, hh, hR⟩
  ·omega
  have kpE : Kp [kn, kd] M (X.ext []) := by rw [Heap.ext_nil]; exact hI.kp
  refine ⟨kj', M1.key 1, M1.key 0, z, ⟨?_, ⟨_, by rw [Heap.ext_nil, hI.n, hrn], .inl ⟨rfl, rfl⟩⟩, by rw [Heap.ext_nil]; exact hI.d, by rw [Heap.ext_nil]; exact hI.j, ⟨lv, by rw [Heap.ext_nil]; exact hh⟩⟩, hR, kpE⟩
  rw [Heap.ext_nil]; exact hh.ok
end
end Go.Proofs
namespace Go.Proofs
open Go Go.Ev
variable {H : Heap}
noncomputable instance (a b : Sh) : Decidable (a.cells = b.cells ∧ a.evs = b.evs ∧ sameD a.done b.done) := inferInstance
theorem f16_val {a b : Sh} (ha : a.ok H) (hb : b.ok H) (h : a.id = b.id ∧ a.ep = b.ep ∧ a.fr = b.fr ∧ a.to = b.to ∧ a.frz = b.frz) : FnOk Tryz.prog 16 [.agg a.enc, .agg b.enc] H fun r G => r = .bool (decide (a.cells = b.cells ∧ a.evs = b.evs ∧ sameD a.done b.done)) ∧ G = H := by
 refine FnOk.drop (R := fun r => r = .bool (decide (a.cells = b.cells ∧ a.evs = b.evs ∧ sameD a.done b.done))) ?_ (by rintro v rfl ρ; rw [AV.ren])
 refine FnOk.of_WW Tryz.func16 rfl C16ok R16ok E0 good_E0 ?_
 obtain ⟨id, ep, fr, to, frz, cs, es, ds, cv, ev, dv⟩ := a
 obtain ⟨id', ep', fr', to', frz', cs', es', ds', cv', ev', dv'⟩ := b
 obtain ⟨h1, h2, h3, h4, h5⟩ := h
 dsimp only at h1 h2 h3 h4 h5
 subst h1 h2 h3 h4 h5
 have q1 := ha.cl
 have q2 := ha.el
 have q3 := ha.dl
 have p1 := hb.cl
 dsimp only at q1 q2 q3 p1
 cases frz
 all_goals
  simp only [go_sem, C16, Sh.enc]
  refine CL.bool (f47_ok (ha.c.ext _) (hb.c.ext _) q1 p1) (fun g1 => ?_) (fun g1 => ?_)
  all_goals simp only [go_sem]
  rotate_left
  ·exact ⟨bool_f fun h => g1 h.1, _, rfl⟩
  refine CL.bool (f48_ok (ha.e.ext _) (hb.e.ext _) (by dsimp only; omega)) (fun g2 => ?_) (fun g2 => ?_)
  all_goals simp only [go_sem]
  rotate_left
  ·exact ⟨bool_f fun h => g2 h.2.1, _, rfl⟩
  refine CL.bool (f49_ok (ha.d.ext _) (hb.d.ext _) (ha.dok.ext _) (hb.dok.ext _) (by dsimp only; omega)) (fun g3 => ?_) (fun g3 => ?_)
  all_goals simp only [go_sem]
  ·exact ⟨bool_t ⟨g1, g2, g3⟩, _, rfl⟩
  ·exact ⟨bool_f fun h => g3 h.2.2, _, rfl⟩
def srR (f : FuncId) (args : List AV) (H : Heap) (v : AV) (X : Heap) : Prop := ∃ a b : Sh, args = [.agg a.enc, .agg b.enc] ∧ a.ok H ∧ b.ok H ∧ X = H ∧ ∃ c, v = .bool c ∧ (sameSh a b → c = true)
theorem sr_ex {a b : Sh} (ha : a.ok H) (hb : b.ok H) (h : a.id = b.id ∧ a.ep = b.ep ∧ a.fr = b.fr ∧ a.to = b.to ∧ a.frz = b.frz) : ∃ c, EC Tryz.prog srR 16 [.agg a.enc, .agg b.enc] H = .ok (.bool c) H ∧ (sameSh a b → c = true) := by
 obtain ⟨v, X, h1, a', b', e1, ha', hb', rfl, c, rfl, h2⟩ := EC_ex (R := srR) (f16_val ha hb h) ⟨a, b, rfl, ha, hb, rfl, _, rfl, fun hs => decide_eq_true ⟨hs.2.2.2.2.2.1, hs.2.2.2.2.2.2.1, by rw [hs.2.2.2.2.2.2.2]; exact sameD_self _⟩⟩
 injection e1 with q1 q2
 injection q1 with q1
 injection q2 with q2 _
 injection q2 with q2
 have r1 := Sh.uniq q1 ha ha'
 have r2 := Sh.uniq q2 hb hb'
 subst r1 r2
 exact ⟨c, h1, h2⟩
end Go.Proofs
namespace Go.Proofs
open Go Go.Ev K
noncomputable def C3 := mkC Tryz.prog Tryz.f3 136
theorem C3ok : CCok Tryz.prog Tryz.f3 136 C3 := mkC_ok _
@[go_sem] theorem call3 (a H) : callC Tryz.prog 3 a H = .call 3 a := callC_ok (by kernel_rfl) a H
theorem R3ok : resKs Tryz.prog Tryz.f3.results.toList = some [RK.tmp z.i.i] := by kernel_rfl
end Go.Proofs
namespace Go.Proofs
open Go Go.Ev
variable {H : Heap}
theorem f8_let {s id : Nat} (hs : s < 3) (hi : id < 1000) (kd : Int) (key to val : List Nat) (n : Int) (wv : AV) (hw : ∀ top σ, AV.ren (rho H top σ) wv = wv) : FnOk Tryz.prog 8 [.int .i64 s, .int .i64 id, .agg (opL kd key to val n wv)] H fun r G => r = .agg (letL s id (opL kd key to val n wv)) ∧ G = H := by
 refine FnOk.dropOld (R := fun r => r = .agg (letL s id (opL kd key to val n wv))) ?_ (by rintro v rfl top σ; simp only [letL, opL, List.cons_append, List.nil_append, AV.ren, AV.rens, hw])
 refine FnOk.of_WW Tryz.func8 rfl C8ok R8ok E0 good_E0 ?_
 have hz : IntKind.i64.wrap (200 + (s : Int)) = 200 + (s : Int) := by rw [wrap_i64 (by omega) (by omega)]
 simp only [go_sem, C8, letL, opL, List.cons_append, List.nil_append, hz]
 first | done | exact ⟨_, rfl⟩ | exact ⟨rfl, _, rfl⟩ | trace_state
theorem FnOk.andLe {P : Program} {f : FuncId} {args : List AV} {Q : AV → Heap → Prop} (h : FnOk P f args H Q) : FnOk P f args H fun v G => Q v G ∧ H.nx.toNat ≤ G.nx.toNat :=
 fun φ w args' ha hw => (h φ w args' ha hw).mono fun e u ⟨v, G, hq, ψ, v', e1, hv, hW, hE⟩ => ⟨v, G, ⟨hq, hE.nx⟩, ψ, v', e1, hv, hW, hE⟩
theorem arr_ko {G G' : Heap} {e : Nat} {v : AV} {xs : List (List AV)} (h : Arr G e v xs) (hk : KO G G') (hle : G.nx.toNat ≤ G'.nx.toNat) (he : e ≠ 2 ∧ e ≠ 24 ∧ e ≠ 8) : Arr G' e v xs := by
 rcases h with g | ⟨c, off, ex, cap, hv, hc, g⟩
 ·exact .inl g
 ·refine .inr ⟨c, off, ex, cap, hv, Nat.lt_of_lt_of_le hc hle, fun hn => ?_⟩
  obtain ⟨r, wr', rows', h1, h2, h3⟩ := g hn
  exact ⟨r, wr', rows', h1, hk c _ h2 ⟨he.1, he.2.1, fun e => absurd e he.2.2⟩, h3⟩
theorem isWt.arr {G : Heap} {wv : AV} {ws : List (List AV)} (hok : G.ok) (h : isWt G wv ws) : Arr G 24 wv ws := by
 rcases h with ⟨rfl, rfl⟩ | ⟨kw, h1, rfl, h3⟩
 ·exact .inl ⟨rfl, rfl⟩
 ·cases ws with
  | nil => exact absurd rfl h1
  | cons w ws => exact .inr ⟨kw, 0, false, _, rfl, hok _ _ h3, fun _ => ⟨0, true, _, rfl, h3, by rw [List.drop_zero, List.take_length]⟩⟩
def bytV (ks : List Nat) : List (List AV) := ks.map fun k : Nat => [AV.int .u8 (k : Int)]
end Go.Proofs
namespace Go.Proofs
open Go Go.Ev
def opT (k i : Nat) : List Nat := if k % 3 = 0 then batT (i % 3) (i / 3 + 1) (65 + i) else recT (i % 3) (i / 3 + 1) (97 + k % 5) (65 + i)
noncomputable def nxS (k i : Nat) (s : Sh) : Sh := if k % 3 = 0 then batA s [97] [98] [99] [65 + i] ((i % 3 : Nat) : Int) ((i / 3 + 1 : Nat) : Int) .z .z .z else askS s [97 + k % 5] [65 + i] ((i % 3 : Nat) : Int) ((i / 3 + 1 : Nat) : Int) .z .z .z
noncomputable def stS (kf : Nat → Nat) : Nat → Sh
 | 0 => nS 1 1 [] [] false
 | i + 1 => nxS (kf i) i (stS kf i)
def recsT (kf : Nat → Nat) : Nat → List (List Nat)
 | 0 => [baseT]
 | i + 1 => recsT kf i ++ [opT (kf i) i]
def diskT (kf : Nat → Nat) (i : Nat) : List Nat := wrapsT (recsT kf i)
def PI (i : Nat) : Int → Int → Prop := fun a b => 3 * (b - 1) + a < (i : Int)
theorem Gd.more {N M : Nat} {P : Int → Int → Prop} {s : Sh} (h : Gd N P s) (hM : N ≤ M) : Gd M P s := ⟨h.toGdC.up hM, h.done, h.up, Nat.le_trans h.dl hM⟩
variable {kf : Nat → Nat}
theorem key_any (x : Nat) : isKey [x] := ⟨List.cons_ne_nil _ _, by show (1 : Int) ≤ 8; decide⟩
theorem gd_st : ∀ i, i ≤ 20 → Gd (3 * i) (PI i) (stS kf i)
 | 0, _ => gd_new
 | i + 1, hi => by
  have h := gd_st i (by omega)
  show Gd _ _ (nxS (kf i) i (stS kf i))
  have hP : ∀ a b : Int, (PI i a b ∨ (a = ((i % 3 : Nat) : Int) ∧ b = ((i / 3 + 1 : Nat) : Int))) → PI (i + 1) a b := fun a b h => by
   unfold PI at *
   omega
  unfold nxS
  split
  ·exact ((h.bat (by omega) key_a key_b key_c2 (v := [65 + i]) (by show (1 : Int) ≤ 12; decide) ⟨by omega, by omega⟩ ⟨by omega, by omega⟩ .z .z .z).mono hP).more (by omega)
  ·exact ((h.put (by omega) (key_any _) (v := [65 + i]) (by show (1 : Int) ≤ 12; decide) ⟨by omega, by omega⟩ ⟨by omega, by omega⟩ .z .z .z).mono hP).more (by omega)
theorem pi_new {i : Nat} : ∀ a b : Int, PI i a b → a = ((i % 3 : Nat) : Int) → b < ((i / 3 + 1 : Nat) : Int) := fun a b h e => by unfold PI at h; omega
theorem rec_st {i : Nat} (hi : i < 20) : Rec (i + 1) (opT (kf i) i) (stS kf i) (stS kf (i + 1)) := by
 have h := gd_st (kf := kf) i (by omega)
 show Rec _ _ _ (nxS (kf i) i (stS kf i))
 unfold opT nxS
 split
 ·exact bat_rec h (by omega) hi pi_new
 ·exact put_rec h (by omega) hi (Nat.mod_lt _ (by decide)) pi_new
theorem recsT_len : ∀ i, (recsT kf i).length = i + 1
 | 0 => rfl
 | i + 1 => by rw [recsT, List.length_append, recsT_len i]; rfl
theorem recsT_zero : ∀ i, (recsT kf i)[0]? = some baseT
 | 0 => rfl
 | i + 1 => by rw [recsT, List.getElem?_append_left (by rw [recsT_len]; omega), recsT_zero i]
theorem recsT_get : ∀ i j, j < i → (recsT kf i)[j + 1]? = some (opT (kf j) j)
 | i + 1, j, h => by
  rcases Nat.lt_or_ge j i with hj | hj
  ·rw [recsT, List.getElem?_append_left (by rw [recsT_len]; omega), recsT_get i j hj]
  ·obtain rfl : j = i := by omega
   rw [recsT, List.getElem?_append_right (by rw [recsT_len]; omega), recsT_len, Nat.sub_self]
   rfl
theorem opT_len (k i : Nat) : (opT k i).length < 64 := by
 unfold opT
 split <;> simp [batT, recT]
theorem disk_next (i : Nat) : diskT kf (i + 1) = diskT kf i ++ wrapT (opT (kf i) i) := by
 show wrapsT (recsT kf i ++ [_]) = _
 rw [wrapsT, List.flatMap_append]
 show _ ++ (wrapT _ ++ []) = _
 rw [List.append_nil]; rfl
theorem wrapT_small {T : List Nat} (h : T.length < 64) : wrapT T = byT (sumT (textT T)) ++ (T.length :: T) := by
 show byT _ ++ textT T = _
 rw [show textT T = T.length :: T by unfold textT; rw [numT_lo h]; rfl]
theorem wrapT_len {T : List Nat} (h : T.length < 64) : (wrapT T).length = T.length + 5 := by
 rw [wrapT_small h, List.length_append]
 show 4 + (T.length + 1) = _
 omega
theorem torn_take {T : List Nat} (h : T.length < 64) {r : Nat} (hr : r < (wrapT T).length) : tornT ((wrapT T).take r) := by
 rw [wrapT_len h] at hr
 have hl : ((wrapT T).take r).length = r := by rw [List.length_take, wrapT_len h]; omega
 rcases Nat.lt_or_ge r 4 with h4 | h4
 ·exact .inl (by rw [hl]; exact h4)
 refine .inr ?_
 have hd : ((wrapT T).take r).drop 4 = (T.length :: T).take (r - 4) := by
  rw [wrapT_small h, List.drop_take]
  congr 1
 rw [hd]
 rcases Nat.eq_or_lt_of_le h4 with h5 | h5
 ·exact .inl (by rw [← h5]; rfl)
 ·refine .inr ⟨T.length, T.take (r - 5), ?_, h, ?_⟩
  ·rw [show r - 4 = (r - 5) + 1 by omega]; rfl
  ·rw [List.length_take]; omega
theorem disk_len : ∀ i, i ≤ 20 → (diskT kf i).length ≤ 29 + 70 * i
 | 0, _ => by
  show (wrapT baseT ++ []).length ≤ _
  rw [List.append_nil, wrap_base]; decide
 | i + 1, h => by
  rw [disk_next, List.length_append, wrapT_len (opT_len _ _)]
  have := disk_len i (by omega)
  have := opT_len (kf i) i
  omega
theorem disk_cut {sf : Nat} : ∀ i, sf ≤ i → ∀ m, (diskT kf sf).length ≤ m → m ≤ (diskT kf i).length → ∃ q p, sf ≤ q ∧ q ≤ i ∧ (diskT kf i).take m = diskT kf q ++ p ∧ tornT p
 | i, hi, m, h1, h2 => by
  rcases Nat.eq_or_lt_of_le h2 with h3 | h3
  ·exact ⟨i, [], hi, Nat.le_refl _, by rw [h3, List.take_length, List.append_nil], .inl (by decide)⟩
  cases i with
  | zero =>
   obtain rfl : sf = 0 := by omega
   omega
  | succ i =>
   rcases Nat.eq_or_lt_of_le hi with h4 | h4
   ·subst h4; omega
   rw [disk_next] at h3 ⊢
   rcases Nat.lt_or_ge m (diskT kf i).length with h5 | h5
   ·obtain ⟨q, p, a, b, c, d⟩ := disk_cut i (by omega) m h1 (by omega)
    exact ⟨q, p, a, by omega, by rw [List.take_append_of_le_length (by omega), c], d⟩
   ·rw [List.length_append] at h3
    refine ⟨i, (wrapT (opT (kf i) i)).take (m - (diskT kf i).length), by omega, by omega, ?_, torn_take (opT_len _ _) (by omega)⟩
    rw [List.take_append, List.take_of_length_le h5]
theorem withD_has (x : Dn) : ∀ l : List Dn, ∃ d ∈ withD l x, d.ses = x.ses ∧ x.id ≤ d.id
 | [] => ⟨x, List.mem_singleton.2 rfl, rfl, Int.le_refl _⟩
 | d :: l => by
  show ∃ c ∈ putGD lateD (d :: l) x, _
  unfold putGD
  split
  ·obtain ⟨c, h1, h2⟩ := withD_has x l
   exact ⟨c, List.mem_cons_of_mem _ h1, h2⟩
  ·split
   ·rename_i h1 h2
    refine ⟨lateD d x, List.mem_cons_self, ?_⟩
    unfold lateD
    split
    ·exact ⟨rfl, Int.le_refl _⟩
    ·exact ⟨h2, by omega⟩
   ·exact ⟨x, List.mem_cons_self, rfl, Int.le_refl _⟩
theorem st_ne {i q : Nat} (hi : i < 20) (hq : q ≤ i) : (stS kf (i + 1)).done ≠ (stS kf q).done := fun e => by
 have hd : ∃ v, (stS kf (i + 1)).done = withD (stS kf i).done ⟨((i % 3 : Nat) : Int), ((i / 3 + 1 : Nat) : Int), v⟩ := by
  show ∃ v, (nxS (kf i) i (stS kf i)).done = _
  unfold nxS
  split <;> exact ⟨_, rfl⟩
 obtain ⟨v, hd⟩ := hd
 obtain ⟨d, h1, h2, h3⟩ := withD_has ⟨((i % 3 : Nat) : Int), ((i / 3 + 1 : Nat) : Int), v⟩ (stS kf i).done
 rw [← hd, e] at h1
 have := ((gd_st (kf := kf) q (by omega)).done d h1).2.2.2
 unfold PI at this
 dsimp only at h2 h3
 omega
end Go.Proofs
namespace Go.Proofs
open Go Go.Ev
variable {kf : Nat → Nat}
section
variable {M : Heap} {kn kd kj kh kw : K} {n m i : Nat} {ws : List (List AV)} {x5 x6 x7 : AV} {s x : Sh}
theorem node_put (h : isNd M kn kd kj kh (diskT kf i) n m ws x5 x6 x7 s) (hR : Rel s (stS kf i)) (hi : i < 20) (hk : ¬ kf i % 3 = 0) (hn : n ≤ (diskT kf i).length) (hm : m < 100000) (hN : ws.length < 100000) :
  FnOk Tryz.prog 7 [.ptr kn 0, .agg (letL (i % 3) (i / 3 + 1) (opL 2 [97 + kf i % 5] [] [65 + i] 0 .nils))] M fun r G => r = .tup [] ∧ ∃ t y, isNd G kn kd kj kh (diskT kf (i + 1)) (n + (wrapT (opT (kf i) i)).length) (m + 1) (ws ++ [y]) x5 x6 x7 t ∧ Rel t (stS kf (i + 1)) ∧ KO M G := by
 have hG := gd_st (kf := kf) i (by omega)
 have D := hG.does (by omega) (key_any (97 + kf i % 5)) (v := [65 + i]) (by show (1 : Int) ≤ 12; decide) (ses := ((i % 3 : Nat) : Int)) (id := ((i / 3 + 1 : Nat) : Int)) ⟨by omega, by omega⟩ ⟨by omega, by omega⟩ pi_new
 have hst : stS kf (i + 1) = askS (stS kf i) [97 + kf i % 5] [65 + i] ((i % 3 : Nat) : Int) ((i / 3 + 1 : Nat) : Int) .z .z .z := by show nxS _ _ _ = _; unfold nxS; rw [if_neg hk]
 have hT : opT (kf i) i = recT (i % 3) (i / 3 + 1) (97 + kf i % 5) (65 + i) := by unfold opT; rw [if_neg hk]
 have hb := disk_len (kf := kf) (i + 1) (by omega)
 rw [disk_next, List.length_append, hT] at hb
 refine (f7_ask D h hR (fun _ _ e => by cases e) (Nat.mod_lt _ (by decide)) (by omega) (by omega) (fun J _ _ => letter_ask (Nat.mod_lt _ (by decide)) (by omega) (by omega) (97 + kf i % 5) (65 + i)) (T := recT (i % 3) (i / 3 + 1) (97 + kf i % 5) (65 + i)) (fun J _ _ => FnOk.of_ev1 good_XL rfl rfl (rec_put hi (Nat.mod_lt _ (by decide)))) (by simp [recT]) (by show 18 < 1000000; decide) (by omega) hn (by omega) hN).mono ?_
 rintro r G ⟨rfl, t, g1, g2, g3⟩
 rw [hst, disk_next, hT]
 exact ⟨rfl, t, _, g1, g2, g3⟩
theorem bat_run {f : FuncId} {args : List AV} {v : AV} {y : Nat} (h : runB f args [wrB y] [wrB y] [.z] v = true) (hv : v.flat2 = true) (hv2 : ∀ ρ, v.ren ρ = v) {J : Heap} (hok : J.ok) (hk : J.get kw = some (wrB y)) : FnOk Tryz.prog f (AV.rens (rk [kw] .z) args) J fun r G => r = v ∧ G = J := by
 obtain ⟨h1, h2⟩ := runB_t h
 exact FnOk.runF good_XL h1 h2 (fun i hi => by
  have : i = 0 := by have hi : i < 1 := hi; omega
  subst this; rfl) hv hv2 (fit_wr hok hk)
theorem node_bat (h : isNd M kn kd kj kh (diskT kf i) n m ws x5 x6 x7 s) (hR : Rel s (stS kf i)) (hi : i < 20) (hk : kf i % 3 = 0) (hn : n ≤ (diskT kf i).length) (hm : m < 100000) (hN : ws.length < 100000) (hw : M.get kw = some (wrB (65 + i))) :
  FnOk Tryz.prog 7 [.ptr kn 0, .agg (letL (i % 3) (i / 3 + 1) (opL 6 [] [] [] 0 (.slice kw 0 3 3 true 3)))] M fun r G => r = .tup [] ∧ ∃ t y, isNd G kn kd kj kh (diskT kf (i + 1)) (n + (wrapT (opT (kf i) i)).length) (m + 1) (ws ++ [y]) x5 x6 x7 t ∧ Rel t (stS kf (i + 1)) ∧ KO M G := by
 have hG := gd_st (kf := kf) i (by omega)
 have D := hG.doesB (by omega) (x := 65 + i) (ses := ((i % 3 : Nat) : Int)) (id := ((i / 3 + 1 : Nat) : Int)) ⟨by omega, by omega⟩ ⟨by omega, by omega⟩ pi_new kw true
 have hst : stS kf (i + 1) = batA (stS kf i) [97] [98] [99] [65 + i] ((i % 3 : Nat) : Int) ((i / 3 + 1 : Nat) : Int) .z .z .z := by show nxS _ _ _ = _; unfold nxS; rw [if_pos hk]
 have hT : opT (kf i) i = batT (i % 3) (i / 3 + 1) (65 + i) := by unfold opT; rw [if_pos hk]
 have hb := disk_len (kf := kf) (i + 1) (by omega)
 rw [disk_next, List.length_append, hT] at hb
 have hL : ∀ J : Heap, J.ok → okW (some (kw, (wr3 [97] [98] [99] [65 + i]).map Wr.enc)) J → FnOk Tryz.prog 27 [.agg (letL (i % 3) (i / 3 + 1) (opL 6 [] [] [] 0 (.slice kw 0 3 3 true 3)))] J fun r J' => r = .bool true ∧ J' = J := fun J hJ hwJ => by
  have := bat_run (allN_of bat_is i hi) rfl (fun ρ => by rw [AV.ren]) hJ (hwJ kw _ rfl)
  simp only [batL, opL, letL, List.cons_append, List.nil_append, AV.rens, AV.ren] at this ⊢
  exact this
 have hB : ∀ J : Heap, J.ok → okW (some (kw, (wr3 [97] [98] [99] [65 + i]).map Wr.enc)) J → FnOk Tryz.prog 54 [.agg (reqL ((i % 3 : Nat) : Int) ((i / 3 + 1 : Nat) : Int) (opL 6 [] [] [] 0 (.slice kw 0 3 3 true 3)))] J fun r J' => r = .str (batT (i % 3) (i / 3 + 1) (65 + i)) ∧ J' = J := fun J hJ hwJ => by
  have := bat_run (allN_of bat_T i hi) rfl (fun ρ => by rw [AV.ren]) hJ (hwJ kw _ rfl)
  simp only [batL, opL, reqL, List.cons_append, List.nil_append, AV.rens, AV.ren] at this ⊢
  exact this
 refine (f7_ask D h hR (fun _ _ e => by cases e; exact hw) (Nat.mod_lt _ (by decide)) (by omega) (by omega) hL (T := batT (i % 3) (i / 3 + 1) (65 + i)) hB (by simp [batT]) (by show 31 < 1000000; decide) (by omega) hn (by omega) hN).mono ?_
 rintro r G ⟨rfl, t, g1, g2, g3⟩
 rw [hst, disk_next, hT]
 exact ⟨rfl, t, _, g1, g2, g3⟩
theorem keeps_no {l : List Dn} {ses id : Int} {a : An} (h : ∀ d ∈ l, d.ses = ses → d.id < id) : ¬ keepsD l ⟨ses, id, a⟩ := by
 rintro ⟨x, h1, h2⟩
 obtain ⟨g1, g2⟩ := findD_mem h1
 have := h x g1 g2
 dsimp only at h2
 omega
theorem ref_put (h : x.ok M) (hR : Rel x (stS kf i)) (hi : i < 20) (hk : ¬ kf i % 3 = 0) :
  FnOk Tryz.prog 9 [.agg x.enc, .int .i64 ((i % 3 : Nat) : Int), .int .i64 ((i / 3 + 1 : Nat) : Int), .agg (opL 2 [97 + kf i % 5] [] [65 + i] 0 .nils)] M fun r G => ∃ (y : Sh) (a : List AV) (L : List Blk), r = .tup [.agg y.enc, .agg a, .int .i64 0] ∧ G = M.ext L ∧ y.ok G ∧ Rel y (stS kf (i + 1)) := by
 have hG := gd_st (kf := kf) i (by omega)
 obtain ⟨h1, h2, h3, h4, h5, h6, h7, h8⟩ := hR.1
 have hI : isHist x.evs x.cells := by rw [h6, h7]; exact hG.hist
 have hcl := hG.cl
 have hel := hG.el
 have hdl := hG.dl
 have hve : (getL x.cells [97 + kf i % 5]).1.ver < 1000000000000 := by have := hG.vers [97 + kf i % 5]; rw [h6]; omega
 have hold : ∀ d ∈ x.done, d.ses = ((i % 3 : Nat) : Int) → d.id < ((i / 3 + 1 : Nat) : Int) := fun d hd e => pi_new _ _ (hG.done d (by rwa [h8] at hd)).2.2.2 e
 have hst : stS kf (i + 1) = askS (stS kf i) [97 + kf i % 5] [65 + i] ((i % 3 : Nat) : Int) ((i / 3 + 1 : Nat) : Int) .z .z .z := by show nxS _ _ _ = _; unfold nxS; rw [if_neg hk]
 refine (f9_put h (by rw [h8]; omega) (by rw [h7]; omega) (by rw [h6]; omega) (key_any (97 + kf i % 5)) (v := [65 + i]) (by show (1 : Int) ≤ 12; decide) hI hve (by rw [h8]; exact hG.up) (stands_new hold) (keeps_no hold)).mono ?_
 rintro r G ⟨rfl, rfl⟩
 refine ⟨_, _, _, rfl, rfl, ?_, by rw [hst]; exact askS_rel hR ..⟩
 exact askS_ok (by rw [refW_eq hI.1]; have := withL_leng (nextC x.cells [97 + kf i % 5] [65 + i] false) x.cells; rw [h6] at this ⊢; omega) (by rw [h7]; omega) (Nat.lt_of_le_of_lt withD_len (by rw [h8]; omega)) h.dok rfl rfl rfl
theorem ref_bat (hok : M.ok) (h : x.ok M) (hR : Rel x (stS kf i)) (hi : i < 20) (hk : kf i % 3 = 0) (hw : M.get kw = some (wrB (65 + i))) :
  FnOk Tryz.prog 9 [.agg x.enc, .int .i64 ((i % 3 : Nat) : Int), .int .i64 ((i / 3 + 1 : Nat) : Int), .agg (opL 6 [] [] [] 0 (.slice kw 0 3 3 true 3))] M fun r G => ∃ (y : Sh) (a : List AV) (L : List Blk), r = .tup [.agg y.enc, .agg a, .int .i64 0] ∧ G = M.ext L ∧ y.ok G ∧ Rel y (stS kf (i + 1)) := by
 have hG := gd_st (kf := kf) i (by omega)
 obtain ⟨h1, h2, h3, h4, h5, h6, h7, h8⟩ := hR.1
 have hGx := hG.toGdC.rel hR
 have hdl := hG.dl
 have hold : ∀ d ∈ x.done, d.ses = ((i % 3 : Nat) : Int) → d.id < ((i / 3 + 1 : Nat) : Int) := fun d hd e => pi_new _ _ (hG.done d (by rwa [h8] at hd)).2.2.2 e
 have hst : stS kf (i + 1) = batA (stS kf i) [97] [98] [99] [65 + i] ((i % 3 : Nat) : Int) ((i / 3 + 1 : Nat) : Int) .z .z .z := by show nxS _ _ _ = _; unfold nxS; rw [if_pos hk]
 refine (f9_bat (x := 65 + i) hok h hGx (by omega) hw (by rw [h8]; omega) (by rw [h8]; exact hG.up) (stands_new hold) (keeps_no hold)).mono ?_
 rintro r G ⟨rfl, rfl⟩
 refine ⟨_, _, _, rfl, rfl, ?_, by rw [hst]; exact batA_rel hR ..⟩
 exact batA_ok hGx (by omega) key_a key_b key_c2 (by show (1 : Int) ≤ 12; decide) (Nat.lt_of_le_of_lt withD_len (by rw [h8]; omega)) h.dok rfl rfl rfl
end
end Go.Proofs
