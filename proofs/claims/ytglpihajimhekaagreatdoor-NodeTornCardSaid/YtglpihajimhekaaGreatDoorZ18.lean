/- part. -/
import Derived.Test.YtglpihajimhekaaGreatDoorZ17
import Derived.Test.YtglpihajimhekaaGreatDoorProg
import Derived.KernelRfl
import Derived.WalkKit
import Derived.LaidEql
import Derived.Lib.IfaceEq
import Derived.Stop.Asserts
import Derived.Stop.IfaceNil
import Derived.RowKitTokens
set_option linter.all false
namespace Go.Proofs
open Go.RowKit Go.Extern.Stop Go.Stop Go.Extern
theorem Tryz.isTypeOf (v : Value) (w : World) : (Extern.ReflectliteType.typeOf #[.iface 125 v]).run Tryz.prog w = .ok (.iface 251 (.agg #[.pointer (some ⟨2, 125, none⟩)])) w := by kernel_rfl
theorem Tryz.isComparable (w : World) : ((Extern.ReflectliteType.method fun t => do Rtype.noPackHeld "Comparable" t; (fun a => Value.bool a.comparable) <$> typeInfo t) #[.agg #[.pointer (some ⟨2, 125, none⟩)]]).run Tryz.prog w = .ok (.bool true) w := by kernel_rfl
theorem Tryz.isMethodComparable (v : Value) (w : World) : (Go.method 492 251 v "Comparable").run Tryz.prog w = .ok (332, v) w := by kernel_rfl
theorem Tryz.isComp : (Tryz.prog.info? 125).map (·.comparable) = some true := by kernel_rfl
theorem Tryz.noIs (v : Value) (xT : TypeId) (w : World) : (Instr.typeAssert (.iface 125 v) xT 253 true).run Tryz.prog w = .ok (.tuple #[.nilIface, .bool false]) w := run_typeAssert_lacksB Tryz.underlying253 (by kernel_rfl) (by kernel_rfl) v xT w
theorem Tryz.noUnwrap (v : Value) (xT : TypeId) (w : World) : (Instr.typeAssert (.iface 125 v) xT 255 true).run Tryz.prog w = .ok (.tuple #[.nilIface, .bool false]) w := run_typeAssert_lacksB Tryz.underlying255 (by kernel_rfl) (by kernel_rfl) v xT w
theorem Tryz.noUnwraps (v : Value) (xT : TypeId) (w : World) : (Instr.typeAssert (.iface 125 v) xT 256 true).run Tryz.prog w = .ok (.tuple #[.nilIface, .bool false]) w := run_typeAssert_lacksB Tryz.underlying256 (by kernel_rfl) (by kernel_rfl) v xT w
theorem is_num (a b : Int) (w : World) : Calls Tryz.prog 65 #[.iface 125 (.int .i64 a), .iface 125 (.int .i64 b)] w fun e w' => e = .returned (.bool (a == b)) ∧ w' = w := by
 have h61 := @run_callFunc_extern Tryz.prog 137 _ Extern.ReflectliteType.typeOf Tryz.func137 (by kernel_rfl) (by kernel_rfl) (by kernel_rfl) (by kernel_rfl)
 have h144 := @run_callFunc_extern Tryz.prog 332 _ (Extern.ReflectliteType.method fun t => do Rtype.noPackHeld "Comparable" t; pure (.bool (← typeInfo t).comparable)) Tryz.func332 (by kernel_rfl) (by kernel_rfl) (by kernel_rfl) (by kernel_rfl)
 have tT := Tryz.isTypeOf
 have cT := Tryz.isComparable
 have mR := Tryz.isMethodComparable
 have n1 := Tryz.noIs
 have n2 := Tryz.noUnwrap
 have n3 := Tryz.noUnwraps
 have heq := Go.Lib.run_eql_iface_int (P := Tryz.prog) (t := 68) (k := .i64) w a b Tryz.underlying68 Tryz.isComp Tryz.underlying125
 by_cases hab : a = b
 ·subst hab
  rw [beq_self_eq_true] at heq ⊢
  go_enter Tryz.func65, Tryz.ntmps65
  go_wp2
  refine wp_loop_rounds 1 ?_
  rw [rounds_succ]
  go_wp2
  go_ret
  exact ⟨rfl, rfl⟩
 ·rw [show (a == b) = false from beq_false_of_ne hab] at heq ⊢
  go_enter Tryz.func65, Tryz.ntmps65
  go_wp2
  refine wp_loop_rounds 1 ?_
  rw [rounds_succ]
  go_wp2
  go_ret
  exact ⟨rfl, rfl⟩
theorem is_nil (b : Int) (w : World) : Calls Tryz.prog 65 #[.nilIface, .iface 125 (.int .i64 b)] w fun e w' => e = .returned (.bool false) ∧ w' = w := by
 have hn := run_eql_iface_nil_left (P := Tryz.prog) w 125 (.int .i64 b) Tryz.underlying68
 go_enter Tryz.func65, Tryz.ntmps65
 go_wp2
 go_ret
 exact ⟨rfl, rfl⟩
end Go.Proofs
namespace Go.Proofs
open Go.RowKit Go.Extern.Stop Go.Stop Go.Extern
theorem as_nil (t : Value) (w : World) :
  Calls Tryz.prog 113 #[.nilIface, t] w fun e w' => e = .returned (.bool false) ∧ w' = w := by
 go_enter Tryz.func113, Tryz.ntmps113
 go_wp2
 go_ret
 exact ⟨rfl, rfl⟩
theorem Tryz.as_valueOf27 (t : Addr) (w : World) : (ReflectliteValue.unpack (.iface 176 (.pointer (some t)))).run Tryz.prog w
  = .ok (.agg #[.pointer (some ⟨2, 176, none⟩), .pointer (some ⟨w.heap.size, 0, none⟩), .int .u64 150]) (w.alloc (.cells #[.pointer (some t)] 176)) := by kernel_rfl
theorem Tryz.as_type27 (a : Addr) (w : World) : (ReflectliteValue.methodAny (ReflectliteValue.valueError "reflectlite.Value.Type" 0) (fun t _ _ _ => ReflectliteType.toType t) #[.agg #[.pointer (some ⟨2, 176, none⟩), .pointer (some a), .int .u64 150]]).run Tryz.prog w
  = .ok (.iface 251 (.agg #[.pointer (some ⟨2, 176, none⟩)])) w := by kernel_rfl
theorem Tryz.as_methodKind (h : Value) (w : World) : (Go.method 492 251 (.agg #[h]) "Kind").run Tryz.prog w = .ok (321, h) w := by kernel_rfl
theorem Tryz.as_kind27 (w : World) : ((ReflectliteType.abiMethod fun t => (fun a : Nat => Value.int IntKind.u8 (a : Int)) <$> Rtype.kind t) #[.pointer (some ⟨2, 176, none⟩)]).run Tryz.prog w = .ok (.int .u8 22) w := by kernel_rfl
theorem Tryz.as_kind25 (w : World) : ((ReflectliteType.abiMethod fun t => (fun a : Nat => Value.int IntKind.u8 (a : Int)) <$> Rtype.kind t) #[.pointer (some ⟨2, 125, none⟩)]).run Tryz.prog w = .ok (.int .u8 2) w := by kernel_rfl
theorem rlm (z : Sem Value) (f : TypeId → Addr → Nat → Nat → Sem Value) (v : Value) :
  ReflectliteValue.method z f #[v] = (do match ← ReflectliteValue.parts v with | none => z | some (t, a, fl) => f t a fl (fl % 32)) := rfl
theorem Tryz.as_parts27 (a : Addr) (w : World) : (ReflectliteValue.parts (.agg #[.pointer (some ⟨2, 176, none⟩), .pointer (some a), .int .u64 150])).run Tryz.prog w = .ok (some (176, a, 150)) w := by kernel_rfl
theorem Tryz.as_isNil27 (a p : Addr) (W : World) (ha : W.cell? a = some (.pointer (some p))) :
  (ReflectliteValue.method (ReflectliteValue.valueError "reflectlite.Value.IsNil" 0) ReflectliteValue.isNil #[.agg #[.pointer (some ⟨2, 176, none⟩), .pointer (some a), .int .u64 150]]).run Tryz.prog W = .ok (.bool false) W := by
 rw [rlm]
 simp only [Sem.run_bind, Tryz.as_parts27, Result.andThen]
 simp [ReflectliteValue.isNil, loadVar, isAgg, underlying, Tryz.underlying176, ha, Result.andThen]
theorem Tryz.as_methodElem (h : Value) (w : World) : (Go.method 492 251 (.agg #[h]) "Elem").run Tryz.prog w = .ok (333, .agg #[h]) w := by kernel_rfl
theorem Tryz.as_methodImplements (h : Value) (w : World) : (Go.method 492 251 (.agg #[h]) "Implements").run Tryz.prog w = .ok (334, .agg #[h]) w := by kernel_rfl
theorem Tryz.as_methodAssignableTo (h : Value) (w : World) : (Go.method 492 251 (.agg #[h]) "AssignableTo").run Tryz.prog w = .ok (331, .agg #[h]) w := by kernel_rfl
theorem Tryz.as_elem27 (w : World) : (ReflectliteType.method ReflectliteType.elem #[.agg #[.pointer (some ⟨2, 176, none⟩)]]).run Tryz.prog w = .ok (.iface 251 (.agg #[.pointer (some ⟨2, 125, none⟩)])) w := by kernel_rfl
theorem Tryz.as_implements25 (w : World) : (ReflectliteType.relation "Implements" ReflectliteType.implements_ #[.agg #[.pointer (some ⟨2, 125, none⟩)], .iface 251 (.agg #[.pointer (some ⟨2, 68, none⟩)])]).run Tryz.prog w = .ok (.bool true) w := by kernel_rfl
theorem Tryz.as_typeOf25 (v : Value) (w : World) : (ReflectliteType.typeOf #[.iface 125 v]).run Tryz.prog w = .ok (.iface 251 (.agg #[.pointer (some ⟨2, 125, none⟩)])) w := by kernel_rfl
theorem Tryz.as_assignable25 (w : World) : (ReflectliteType.relation "AssignableTo" ReflectliteType.assignableTo #[.agg #[.pointer (some ⟨2, 125, none⟩)], .iface 251 (.agg #[.pointer (some ⟨2, 125, none⟩)])]).run Tryz.prog w = .ok (.bool true) w := by kernel_rfl
theorem Tryz.as_valueOf25 (e : Int) (w : World) : (ReflectliteValue.unpack (.iface 125 (.int .i64 e))).run Tryz.prog w
  = .ok (.agg #[.pointer (some ⟨2, 125, none⟩), .pointer (some ⟨w.heap.size, 0, none⟩), .int .u64 130]) (w.alloc (.cells #[.int .i64 e] 125)) := by kernel_rfl
theorem Tryz.as_elemOf27 (w : World) : (Rtype.elem? 176).run Tryz.prog w = .ok (some 125) w := by kernel_rfl
theorem Tryz.as_mk25 (p : Addr) (w : World) : (ReflectliteValue.mk 125 p ReflectliteValue.flagAddr).run Tryz.prog w = .ok (.agg #[.pointer (some ⟨2, 125, none⟩), .pointer (some p), .int .u64 386]) w := by kernel_rfl
theorem Tryz.as_elemV27 (a p : Addr) (W : World) (ha : W.cell? a = some (.pointer (some p))) :
  (ReflectliteValue.method (ReflectliteValue.valueError "reflectlite.Value.Elem" 0) ReflectliteValue.elem #[.agg #[.pointer (some ⟨2, 176, none⟩), .pointer (some a), .int .u64 150]]).run Tryz.prog W
   = .ok (.agg #[.pointer (some ⟨2, 125, none⟩), .pointer (some p), .int .u64 386]) W := by
 rw [rlm]
 simp only [Sem.run_bind, Tryz.as_parts27, Result.andThen]
 simp [ReflectliteValue.elem, loadVar, isAgg, underlying, Tryz.underlying176, ha, Result.andThen, Tryz.as_elemOf27, Tryz.as_mk25]
theorem rls (v x : Value) : ReflectliteValue.set #[v, x] = (do
  let (some (dst, a, fl), some (src, b, _)) := (← ReflectliteValue.parts v, ← ReflectliteValue.parts x)
   | unsupported (.noEntry "extern/(internal/reflectlite.Value).Set.zeroValue")
  if fl / ReflectliteValue.flagAddr % 2 == 0 then unsupported (.noEntry "extern/(internal/reflectlite.Value).Set.unaddressable")
  let val ← loadVar src b
  if ← Rtype.directlyAssignable dst src then storeVar dst a val
  else if ← Rtype.implements dst src then
   if (← Rtype.kind src) == 20 then
    match val with
    | .nilIface => unsupported (.noEntry "extern/reflectlite: a nil value of one interface type handed on as a value of another")
    | _ => storeVar dst a val
   else storeVar dst a (.iface src val)
  else panicString ("reflectlite.Set: value of type " ++ (← Rtype.spelt src) ++ " is not assignable to type " ++ (← Rtype.spelt dst))
  pure (.tuple #[])) := rfl
theorem Tryz.as_parts25a (a : Addr) (w : World) : (ReflectliteValue.parts (.agg #[.pointer (some ⟨2, 125, none⟩), .pointer (some a), .int .u64 386])).run Tryz.prog w = .ok (some (125, a, 386)) w := by kernel_rfl
theorem Tryz.as_parts25 (a : Addr) (w : World) : (ReflectliteValue.parts (.agg #[.pointer (some ⟨2, 125, none⟩), .pointer (some a), .int .u64 130])).run Tryz.prog w = .ok (some (125, a, 130)) w := by kernel_rfl
theorem Tryz.as_direct25 (w : World) : (Rtype.directlyAssignable 125 125).run Tryz.prog w = .ok true w := by kernel_rfl
theorem Tryz.as_set25 (ta b : Addr) (e : Int) (old : Value) (W : World) (hb : W.cell? b = some (.int .i64 e)) (ht : W.cell? ta = some old) (hf : W.frozen? ta = false) :
  (ReflectliteValue.set #[.agg #[.pointer (some ⟨2, 125, none⟩), .pointer (some ta), .int .u64 386], .agg #[.pointer (some ⟨2, 125, none⟩), .pointer (some b), .int .u64 130]]).run Tryz.prog W
   = .ok (.tuple #[]) (W.setCell ta (.int .i64 e)) := by
 rw [rls]
 simp only [Sem.run_bind, Tryz.as_parts25a, Tryz.as_parts25, Result.andThen]
 simp [ReflectliteValue.flagAddr, loadVar, isAgg, underlying, Tryz.underlying125, hb, Result.andThen, Tryz.as_direct25, storeVar, Value.cells, storeCells, Addr.add]
 rw [run_store Tryz.prog W ta _ _ (by rfl)]
 simp [ht, hf]
set_option maxHeartbeats 4000000 in
theorem as_hit (e : Int) (t : Addr) (old : Value) (w : World) (hg : w.cell? ⟨0, 0, none⟩ = some (.iface 251 (.agg #[.pointer (some ⟨2, 68, none⟩)]))) (ht0 : w.cell? t = some old) (hf0 : w.frozen? t = false) :
  Calls Tryz.prog 113 #[.iface 125 (.int .i64 e), .iface 176 (.pointer (some t))] w fun ev w' => ev = .returned (.bool true) ∧ w' = ((((w.alloc (.cells #[.pointer (some t)] 176)).alloc (.cells #[.pointer (some ⟨2, 176, none⟩), .pointer (some ⟨w.heap.size, 0, none⟩), .int .u64 150] 235)).alloc (.cells #[.pointer (some ⟨2, 176, none⟩), .pointer (some ⟨w.heap.size, 0, none⟩), .int .u64 150] 235)).alloc (.cells #[.int .i64 e] 125)).setCell t (.int .i64 e) := by
 have h6 := @run_callFunc_extern Tryz.prog 179 _ (fun args => ReflectliteValue.unpack (args.getD 0 (.tuple #[]))) Tryz.func179 (by kernel_rfl) (by kernel_rfl) (by kernel_rfl) (by kernel_rfl)
 have h7 := @run_callFunc_extern Tryz.prog 180 _ (ReflectliteValue.methodAny (ReflectliteValue.valueError "reflectlite.Value.Type" 0) (fun t _ _ _ => ReflectliteType.toType t)) Tryz.func180 (by kernel_rfl) (by kernel_rfl) (by kernel_rfl) (by kernel_rfl)
 have h8 := @run_callFunc_extern Tryz.prog 181 _ (ReflectliteValue.method (ReflectliteValue.valueError "reflectlite.Value.IsNil" 0) ReflectliteValue.isNil) Tryz.func181 (by kernel_rfl) (by kernel_rfl) (by kernel_rfl) (by kernel_rfl)
 have h27 := @run_callFunc_extern Tryz.prog 321 _ (ReflectliteType.abiMethod fun t => do pure (.int .u8 (← Rtype.kind t))) Tryz.func321 (by kernel_rfl) (by kernel_rfl) (by kernel_rfl) (by kernel_rfl)
 have h37 := @run_callFunc_extern Tryz.prog 333 _ (ReflectliteType.method ReflectliteType.elem) Tryz.func333 (by kernel_rfl) (by kernel_rfl) (by kernel_rfl) (by kernel_rfl)
 have h38 := @run_callFunc_extern Tryz.prog 334 _ (ReflectliteType.relation "Implements" ReflectliteType.implements_) Tryz.func334 (by kernel_rfl) (by kernel_rfl) (by kernel_rfl) (by kernel_rfl)
 have h10 := @run_callFunc_extern Tryz.prog 137 _ ReflectliteType.typeOf Tryz.func137 (by kernel_rfl) (by kernel_rfl) (by kernel_rfl) (by kernel_rfl)
 have h35 := @run_callFunc_extern Tryz.prog 331 _ (ReflectliteType.relation "AssignableTo" ReflectliteType.assignableTo) Tryz.func331 (by kernel_rfl) (by kernel_rfl) (by kernel_rfl) (by kernel_rfl)
 have h11 := @run_callFunc_extern Tryz.prog 230 _ (ReflectliteValue.method (ReflectliteValue.valueError "reflectlite.Value.Elem" 0) ReflectliteValue.elem) Tryz.func230 (by kernel_rfl) (by kernel_rfl) (by kernel_rfl) (by kernel_rfl)
 have h12 := @run_callFunc_extern Tryz.prog 231 _ ReflectliteValue.set Tryz.func231 (by kernel_rfl) (by kernel_rfl) (by kernel_rfl) (by kernel_rfl)
 have tO := Tryz.as_typeOf25
 have mA := Tryz.as_methodAssignableTo
 have a25 := Tryz.as_assignable25
 have v25 := Tryz.as_valueOf25
 have f6 := Tryz.as_valueOf27
 have f7 := Tryz.as_type27
 have mK := Tryz.as_methodKind
 have mE := Tryz.as_methodElem
 have mI := Tryz.as_methodImplements
 have k27 := Tryz.as_kind27
 have k25 := Tryz.as_kind25
 have e27 := Tryz.as_elem27
 have i25 := Tryz.as_implements25
 have n8 := Tryz.as_isNil27 ⟨w.heap.size, 0, none⟩ t ((w.alloc (.cells #[.pointer (some t)] 176)).alloc (.cells #[.pointer (some ⟨2, 176, none⟩), .pointer (some ⟨w.heap.size, 0, none⟩), .int .u64 150] 235)) (by simp)
 have hlt : 0 < w.heap.size := by
  rcases Nat.eq_zero_or_pos w.heap.size with h0 | h
  ·simp [World.cell?, h0] at hg
  ·exact h
 have hg2 : ((w.alloc (.cells #[.pointer (some t)] 176)).alloc (.cells #[.pointer (some ⟨2, 176, none⟩), .pointer (some ⟨w.heap.size, 0, none⟩), .int .u64 150] 235)).cell? ⟨0, 0, none⟩ = some (.iface 251 (.agg #[.pointer (some ⟨2, 68, none⟩)])) := by
  rw [World.cell?_alloc_lt _ _ ⟨0, 0, none⟩ (by simp), World.cell?_alloc_lt _ _ ⟨0, 0, none⟩ hlt]; exact hg
 have htl : t.block < w.heap.size := by
  rcases Nat.lt_or_ge t.block w.heap.size with h | h
  ·exact h
  ·simp [World.cell?, Array.getElem?_eq_none h] at ht0
 have el := Tryz.as_elemV27 ⟨w.heap.size, 0, none⟩ t (((w.alloc (.cells #[.pointer (some t)] 176)).alloc (.cells #[.pointer (some ⟨2, 176, none⟩), .pointer (some ⟨w.heap.size, 0, none⟩), .int .u64 150] 235)).alloc (.cells #[.pointer (some ⟨2, 176, none⟩), .pointer (some ⟨w.heap.size, 0, none⟩), .int .u64 150] 235)) (by rw [World.cell?_alloc_lt _ _ ⟨w.heap.size, 0, none⟩ (by simp; omega)]; simp)
 have st := Tryz.as_set25 t ⟨w.heap.size + 1 + 1 + 1, 0, none⟩ e old ((((w.alloc (.cells #[.pointer (some t)] 176)).alloc (.cells #[.pointer (some ⟨2, 176, none⟩), .pointer (some ⟨w.heap.size, 0, none⟩), .int .u64 150] 235)).alloc (.cells #[.pointer (some ⟨2, 176, none⟩), .pointer (some ⟨w.heap.size, 0, none⟩), .int .u64 150] 235)).alloc (.cells #[.int .i64 e] 125))
  (by rw [World.cell?_alloc_at _ _ _ _ (by simp)]; rfl)
  (by rw [World.cell?_alloc_lt _ _ t (by simp; omega), World.cell?_alloc_lt _ _ t (by simp; omega), World.cell?_alloc_lt _ _ t (by simp; omega), World.cell?_alloc_lt _ _ t htl]; exact ht0)
  (by rw [World.frozen?_alloc_old _ _ t (by simp; omega), World.frozen?_alloc_old _ _ t (by simp; omega), World.frozen?_alloc_old _ _ t (by simp; omega), World.frozen?_alloc_old _ _ t (Nat.ne_of_lt htl)]; exact hf0)
 go_enter Tryz.func113, Tryz.ntmps113
 go_wp2
 refine wp_loop_rounds 1 ?_
 rw [rounds_succ]
 go_wp2
 go_ret
 exact ⟨rfl, rfl⟩
end Go.Proofs
namespace Go.Proofs
open Go.RowKit Go.Extern.Stop Go.Stop Go.Extern
end Go.Proofs
namespace Go.Proofs
open Go Go.Ev
def errV : Option Int → AV
 | none => .nili
 | some n => .iface 125 (.int .i64 n)
theorem errV_inv {φ : Phi} {e : Option Int} {v : Value} (h : VRel Tryz.prog φ (errV e) v) : v = (match e with | none => .nilIface | some n => .iface 125 (.int .i64 n)) := by
 cases e with
 | none => cases h; rfl
 | some n => cases h with | iface _ _ v' h => cases h; rfl
theorem one_arg {φ : Phi} {a : AV} {args : Array Value} (h : VRels Tryz.prog φ [a] args.toList) : ∃ v, args = #[v] ∧ VRel Tryz.prog φ a v := by
 cases hl : args.toList with
 | nil => rw [hl] at h; cases h
 | cons v l =>
  rw [hl] at h
  cases h with
  | cons _ _ _ _ h1 h2 =>
   cases h2
   exact ⟨v, by rw [← Array.toArray_toList (xs := args), hl], h1⟩
theorem two_args {φ : Phi} {a b : AV} {args : Array Value} (h : VRels Tryz.prog φ [a, b] args.toList) : ∃ v u, args = #[v, u] ∧ VRel Tryz.prog φ a v ∧ VRel Tryz.prog φ b u := by
 cases hl : args.toList with
 | nil => rw [hl] at h; cases h
 | cons v l =>
  rw [hl] at h
  cases h with
  | cons _ _ _ _ h1 h2 =>
   cases h2 with
   | cons _ _ u _ h3 h4 =>
    cases h4
    exact ⟨v, u, by rw [← Array.toArray_toList (xs := args), hl], h1, h3⟩
variable {H : Heap}
theorem f65_ok (a : Option Int) (b : Int) : FnOk Tryz.prog 65 [errV a, .iface 125 (.int .i64 b)] H fun r G => r = .bool (decide (a = some b)) ∧ G = H := by
 refine FnOk.of_calls fun φ w args' ha hw => ?_
 obtain ⟨v, u, rfl, h1, h2⟩ := two_args ha
 have e1 := errV_inv h1
 have e2 := errV_inv (e := some b) h2
 cases a with
 | none =>
  obtain rfl : v = .nilIface := e1
  obtain rfl : u = .iface 125 (.int .i64 b) := e2
  refine (is_nil b w).mono ?_
  rintro e w' ⟨rfl, rfl⟩
  exact ⟨⟨_, rfl, .bool _⟩, Grows.refl _⟩
 | some a =>
  obtain rfl : v = .iface 125 (.int .i64 a) := e1
  obtain rfl : u = .iface 125 (.int .i64 b) := e2
  refine (is_num a b w).mono ?_
  rintro e w' ⟨rfl, rfl⟩
  refine ⟨⟨_, rfl, ?_⟩, Grows.refl _⟩
  rw [show decide (some a = some b) = (a == b) by by_cases h : a = b <;> simp [h]]
  exact .bool _
end Go.Proofs
set_option maxRecDepth 100000
namespace Go.Proofs
open Go Go.Ev
variable {H : Heap}
def isID (n : Int) : Prop := 1 ≤ n ∧ n ≤ 1000000000000
instance (n : Int) : Decidable (isID n) := inferInstanceAs (Decidable (_ ∧ _))
structure Evn where
 key : List Nat
 ver : Int
 val : List Nat
 del : Bool
 deriving DecidableEq
def Evn.enc (e : Evn) : List AV := [.str e.key, .int .i64 e.ver, .str e.val, .bool e.del]
theorem Evn.rens (ρ : K → K) (c : Evn) : AV.rens ρ c.enc = c.enc := by simp only [Evn.enc, AV.rens, AV.ren]
theorem Evn.map_rens (ρ : K → K) (l : List Evn) : (l.map Evn.enc).map (AV.rens ρ) = l.map Evn.enc := by
 rw [List.map_map]; exact List.map_congr_left fun c _ => Evn.rens ρ c
def isEv (e : Evn) : Prop := mayBe e.key e.val e.ver e.del
instance (e : Evn) : Decidable (isEv e) := inferInstanceAs (Decidable (mayBe ..))
theorem f131_ok (e : Evn) : FnOk Tryz.prog 131 [.agg e.enc] H fun r G => r = .bool (decide (isEv e)) ∧ G = H := by
 refine FnOk.drop (R := fun r => r = .bool (decide (isEv e))) ?_ (by rintro v rfl ρ; rw [AV.ren])
 refine FnOk.of_WW Tryz.func131 rfl C131ok R131ok E0 good_E0 ?_
 simp only [go_sem, C131, Evn.enc]
 refine CL.one (f188_ok e.key e.val e.ver e.del) ?_
 simp only [go_sem]
 exact ⟨fun g => ⟨bool_t g, _, rfl⟩, fun g => ⟨bool_f g, _, rfl⟩⟩
end Go.Proofs
namespace Go.Proofs
open Go Go.Ev
variable {H : Heap}
def runE (k : List Nat) : List Evn → Int × Evn → Option (Int × Evn)
 | [], s => some s
 | e :: l, s => if e.key = k then (if e.ver = s.1 + 1 then runE k l (e.ver, e) else none) else runE k l s
def lastOf (c : Cell) : Evn := ⟨[], 0, c.value, c.del⟩
def ofH (l : List Evn) (c : Cell) : Prop := ∃ s, runE c.key l (c.floor, lastOf c) = some s ∧ s.1 = c.ver ∧ s.2.val = c.value ∧ s.2.del = c.del
noncomputable instance (l : List Evn) (c : Cell) : Decidable (ofH l c) := Classical.propDecidable _
theorem drop_at {l : List Evn} {i : Nat} {e : Evn} (h : l[i]? = some e) : l.drop i = e :: l.drop (i + 1) := by
 obtain ⟨hl, rfl⟩ := List.getElem?_eq_some_iff.1 h
 exact List.drop_eq_getElem_cons hl
theorem f133_ok {v : AV} {l : List Evn} (hA : Arr H 4 v (l.map Evn.enc)) (hl : l.length < 9223372036854775807) (c : Cell) (hf : 0 ≤ c.floor ∧ c.floor ≤ 1000000000000) (he : ∀ e ∈ l, 1 ≤ e.ver ∧ e.ver ≤ 1000000000000) :
  FnOk Tryz.prog 133 [v, .agg c.enc] H fun r G => r = .bool (decide (ofH l c)) ∧ G = H := by
 refine FnOk.assume fun hok => ?_
 refine FnOk.drop (R := fun r => r = .bool (decide (ofH l c))) ?_ (by rintro v rfl ρ; rw [AV.ren])
 refine FnOk.of_WW Tryz.func133 rfl C133ok R133ok E0 good_E0 ?_
 have hlen := fun G => hA.len G; simp only [List.length_map] at hlen; have hren := hA.ren
 simp only [go_sem, C133, Cell.enc, hlen]
 refine LL.st good_E0 (fun s : Nat × Int × Evn => l.length - s.1) (fun s => s.1 ≤ l.length ∧ (0 ≤ s.2.1 ∧ s.2.1 ≤ 1000000000000) ∧ runE c.key l (c.floor, lastOf c) = runE c.key (l.drop s.1) s.2)
  (fun s => [((.o (.o .z)), .ptr (H.key 0) 0), ((.o (.i .z)), .int .i64 s.2.1), ((.i (.i .z)), .ptr (H.key 1) 0), ((.i (.o (.o (.o .z)))), v), ((.o (.i (.o (.o .z)))), .int .i64 l.length), ((.i (.i (.o (.o .z)))), .int .i64 s.1)])
  (fun s => [.row true 5 [[.str c.key, .str c.value, .int .i64 c.ver, .bool c.del, .int .i64 c.floor]], .row true 4 [[.str s.2.2.key, .int .i64 s.2.2.ver, .str s.2.2.val, .bool s.2.2.del]]]) ?_ (0, c.floor, lastOf c) (σ := [0, 1]) (Wk.of rfl (by decide) (by simp only [go_sem, hren]) (by simp only [go_sem, lastOf])) ⟨Nat.zero_le _, hf, rfl⟩
 rintro ⟨i, at_, last⟩ ⟨hi, hat, hrun⟩
 simp only at hi hat hrun
 by_cases hlt : i < l.length
 ·obtain ⟨kk, r, ex', cap', wr, rows, hv, hrho, hgo, hrow⟩ := hA.at hok (j := i) (by rw [List.length_map]; exact hlt); simp only [List.length_map, List.getElem_map] at hv hrow; cases hv; have hget : l[i]? = some l[i] := List.getElem?_eq_getElem hlt; generalize l[i] = e at hrow hget; have hw := wrap_succ (n := i) (by omega); have hci : (i : Int) < (l.length : Int) := (by omega); have hsi : i + 1 ≤ l.length := (by omega)
  have hev := he e (List.mem_of_getElem? hget)
  rw [drop_at hget, runE] at hrun
  have hw2 : IntKind.i64.wrap (at_ + 1) = at_ + 1 := wrap_i64 (by omega) (by omega)
  simp only [go_sem, hlen, hci, hsi, hgo, hrow, hw, hw2, Evn.enc]
  have hno : runE c.key l (c.floor, lastOf c) = none → AV.bool false = .bool (decide (ofH l c)) := fun h => bool_f fun ⟨q, hq, _⟩ => by rw [h] at hq; cases hq
  refine ⟨fun g => ?_, fun g => ⟨fun g2 => ?_, fun g2 => ?_⟩⟩
  ·rw [if_neg g] at hrun
   exact ⟨(i + 1, at_, last), by show l.length - (i + 1) < l.length - i; omega, ⟨by show i + 1 ≤ l.length; omega, hat, hrun⟩, _, [0, 1], rfl, Wk.of rfl (by decide) (by simp only [go_sem, hrho, hw]) (by simp only [go_sem])⟩
  ·rw [if_pos (Classical.not_not.1 g), if_neg g2] at hrun
   exact ⟨hno hrun, _, rfl⟩
  ·rw [if_pos (Classical.not_not.1 g), if_pos (Classical.not_not.1 g2)] at hrun
   exact ⟨(i + 1, e.ver, e), by show l.length - (i + 1) < l.length - i; omega, ⟨by show i + 1 ≤ l.length; omega, ⟨by show 0 ≤ e.ver; omega, by show e.ver ≤ _; omega⟩, hrun⟩, _, [0, 1], rfl, Wk.of rfl (by decide) (by simp only [go_sem, hrho, hw]) (by simp only [go_sem])⟩
 ·have hci : ¬ (i : Int) < (l.length : Int) := by omega
  rw [List.drop_eq_nil_of_le (by omega), runE] at hrun
  simp only [go_sem, hci]
  have hof : ofH l c ↔ at_ = c.ver ∧ last.val = c.value ∧ last.del = c.del := by
   unfold ofH
   rw [hrun]
   exact ⟨fun ⟨q, h, h1⟩ => by cases h; exact h1, fun h => ⟨_, rfl, h⟩⟩
  refine ⟨fun g1 => ⟨fun g2 => ⟨fun g3 => ⟨bool_t (hof.2 ⟨g1, g2, g3⟩), _, rfl⟩, fun g3 => ⟨bool_f fun h => g3 (hof.1 h).2.2, _, rfl⟩⟩, fun g2 => ⟨bool_f fun h => g2 (hof.1 h).2.1, _, rfl⟩⟩, fun g1 => ⟨bool_f fun h => g1 (hof.1 h).1, _, rfl⟩⟩
end Go.Proofs
namespace Go.Proofs
open Go Go.Ev
variable {H : Heap}
attribute [go_sem] mkfR
theorem f132_ok {k : K} {wr : Bool} {v : AV} {l : List Evn} (hk : H.get k = some (.row wr 1 [[v]])) (hA : Arr H 4 v (l.map Evn.enc)) (hl : l.length < 9223372036854775807) (c : Cell) (hf : 0 ≤ c.floor ∧ c.floor ≤ 1000000000000) (he : ∀ e ∈ l, 1 ≤ e.ver ∧ e.ver ≤ 1000000000000) :
  FnOk Tryz.prog 132 [.agg c.enc, .ptr k 0] H fun r G => r = .bool (decide (¬ ofH l c)) ∧ G = H := by
 refine FnOk.assume fun hok => ?_
 refine FnOk.drop (R := fun r => r = .bool (decide (¬ ofH l c))) ?_ (by rintro v rfl ρ; rw [AV.ren])
 refine FnOk.of_WW Tryz.func132 rfl C132ok R132ok E0 good_E0 ?_
 have hgo := Heap.get_ext_old hok hk
 simp only [go_sem, C132, Cell.enc, hgo]
 refine CL.bool (f133_ok (hA.ext _) hl c hf he) (fun g => ?_) (fun g => ?_)
 ·simp only [go_sem]
  exact ⟨bool_f fun h => h g, _, rfl⟩
 ·simp only [go_sem]
  exact ⟨bool_t g, _, rfl⟩
theorem f128_ok {v : AV} {l : List Cell} (hA : Arr H 5 v (l.map Cell.enc)) (hl : l.length ≤ 9223372036854775807) {g : FuncId} {caps : List AV} (hcall : ∀ args H, callC Tryz.prog g args H = .call g args)
  (hcaps : ∀ top σ, AV.ren (rho H top σ) (.fn (.func g) [] caps) = .fn (.func g) [] caps) {p : Cell → Prop} [DecidablePred p] (hg : ∀ c ∈ l, ∀ L, FnOk Tryz.prog g (.agg c.enc :: caps) (H.ext L) fun r G => r = .bool (decide (p c)) ∧ G = H.ext L) :
  FnOk Tryz.prog 128 [v, .fn (.func g) [] caps] H fun r G => (∃ n : Int, r = .int .i64 n ∧ (0 ≤ n ↔ ∃ c ∈ l, p c)) ∧ G = H := by
 refine FnOk.assume fun hok => ?_
 refine FnOk.drop (R := fun r => ∃ n : Int, r = .int .i64 n ∧ (0 ≤ n ↔ ∃ c ∈ l, p c)) ?_ (by rintro v ⟨n, rfl, _⟩ ρ; rw [AV.ren])
 refine FnOk.of_WW Tryz.func128 rfl C128ok R128ok E0 good_E0 ?_
 have hlen := fun G => hA.len G; simp only [List.length_map] at hlen; have hren := hA.ren
 simp only [go_sem, C128, hlen]
 refine LL.st good_E0 (fun i : Nat => l.length - i) (fun i => i ≤ l.length ∧ ∀ j d, j < i → l[j]? = some d → ¬ p d)
  (fun i => [(.z, v), ((.o .z), .fn (.func g) [] caps), ((.i (.i .z)), v), ((.o (.o (.o .z))), .int .i64 l.length), ((.i (.o (.o .z))), .int .i64 i)]) (fun i => []) ?_ 0 (σ := []) (Wk.of rfl (by decide) (by simp only [go_sem, hren, ↓hcaps]) (by simp only [go_sem])) ⟨Nat.zero_le _, fun j d h => absurd h (Nat.not_lt_zero _)⟩
 rintro i ⟨hi, hno⟩
 by_cases hlt : i < l.length
 ·obtain ⟨kk, r, ex', cap', wr, rows, hv, hrho, hgo, hrow⟩ := hA.at hok (j := i) (by rw [List.length_map]; exact hlt); simp only [List.length_map, List.getElem_map] at hv hrow; cases hv; have hget : l[i]? = some l[i] := List.getElem?_eq_getElem hlt; generalize l[i] = c at hrow hget; have hw := wrap_succ (n := i) (by omega); have hci : (i : Int) < (l.length : Int) := (by omega); have hsi : i + 1 ≤ l.length := (by omega)
  have hgc := hg c (List.mem_of_getElem? hget)
  simp only [Cell.enc] at hgc
  simp only [go_sem, hci, hsi, hgo, hrow, hw, Cell.enc, hcall]
  refine CL.bool (hgc _) (fun g => ?_) (fun g => ?_)
  ·simp only [go_sem]
   exact ⟨⟨_, rfl, fun _ => ⟨c, List.mem_of_getElem? hget, g⟩, fun _ => by omega⟩, _, rfl⟩
  ·simp only [go_sem, hw]
   refine ⟨i + 1, by show l.length - (i + 1) < l.length - i; omega, ⟨by omega, fun j d hj hd => ?_⟩, _, [], rfl, Wk.of rfl (by decide) (by simp only [go_sem, hren, hrho, ↓hcaps, hw]) (by simp only [go_sem])⟩
   rcases Nat.lt_or_ge j i with h | h
   ·exact hno j d h hd
   ·obtain rfl : j = i := by omega
    rw [hget] at hd; cases hd; exact g
 ·have hci : ¬ (i : Int) < (l.length : Int) := by omega
  simp only [go_sem, hci]
  refine ⟨⟨_, rfl, fun h => absurd h (by decide), ?_⟩, _, rfl⟩
  rintro ⟨d, hd, hb⟩
  obtain ⟨j, hj⟩ := List.mem_iff_getElem?.1 hd
  exact absurd hb (hno j d (by have := (List.getElem?_eq_some_iff.1 hj).1; omega) hj)
noncomputable instance (l : List Cell) (p : Cell → Prop) : Decidable (∃ c ∈ l, p c) := Classical.propDecidable _
theorem f59_ok {v : AV} {l : List Cell} (hA : Arr H 5 v (l.map Cell.enc)) (hl : l.length ≤ 9223372036854775807) {g : FuncId} {caps : List AV} (hcall : ∀ args H, callC Tryz.prog g args H = .call g args)
  (hcaps : ∀ top σ, AV.ren (rho H top σ) (.fn (.func g) [] caps) = .fn (.func g) [] caps) {p : Cell → Prop} [DecidablePred p] (hg : ∀ c ∈ l, ∀ L, FnOk Tryz.prog g (.agg c.enc :: caps) (H.ext L) fun r G => r = .bool (decide (p c)) ∧ G = H.ext L) :
  FnOk Tryz.prog 59 [v, .fn (.func g) [] caps] H fun r G => r = .bool (decide (∃ c ∈ l, p c)) ∧ G = H := by
 refine FnOk.drop (R := fun r => r = .bool (decide (∃ c ∈ l, p c))) ?_ (by rintro v rfl ρ; rw [AV.ren])
 refine FnOk.of_WW Tryz.func59 rfl C59ok R59ok E0 good_E0 ?_
 simp only [go_sem, C59]
 have h := f128_ok hA hl hcall hcaps hg
 rw [← Heap.ext_nil H] at h
 refine CL.of h ?_
 rintro _ _ ⟨⟨n, rfl, hn⟩, rfl⟩
 simp only [go_sem]
 exact ⟨fun h => ⟨bool_t (hn.1 h), [], rfl⟩, fun h => ⟨bool_f fun e => h (hn.2 e), [], rfl⟩⟩
def isHist (l : List Evn) (cells : List Cell) : Prop := isIdx cells ∧ (∀ e ∈ l, (getL cells e.key).2 = true ∧ isEv e) ∧ ∀ c ∈ cells, ofH l c
noncomputable instance (l : List Evn) (cells : List Cell) : Decidable (isHist l cells) := Classical.propDecidable _
theorem isIdx.cell {cells : List Cell} (h : isIdx cells) {c : Cell} (hc : c ∈ cells) : cellIs c := by
 obtain ⟨j, hj⟩ := List.mem_iff_getElem?.1 hc
 have := h j (List.getElem?_eq_some_iff.1 hj).1
 obtain ⟨c', h1, h2, _⟩ := this
 rw [hj] at h1; cases h1; exact h2
end Go.Proofs
namespace Go.Proofs
open Go Go.Ev
variable {H : Heap}
theorem arr_agg {esz : Nat} {v : AV} {xs : List (List AV)} (h : Arr H esz v xs) {β : Type} (f : β) (c : List AV → β) : asAggC v f c = f := by
 rcases h.forms with ⟨rfl, _⟩ | ⟨k, off, ex, cap, rfl, _⟩ <;> rfl
theorem arr_one {esz : Nat} {v : AV} {xs : List (List AV)} (h : Arr H esz v xs) : AV.one v = true := by
 rcases h.forms with ⟨rfl, _⟩ | ⟨k, off, ex, cap, rfl, _⟩ <;> rfl
theorem isEv.ver {e : Evn} (h : isEv e) : 1 ≤ e.ver ∧ e.ver ≤ 1000000000000 := ⟨h.2.2.2.1, h.2.2.2.2⟩
theorem cellIs.floor {c : Cell} (h : cellIs c) : 0 ≤ c.floor ∧ c.floor ≤ 1000000000000 := ⟨h.2.1, by have := h.1.2.2.2.2; have := h.2.2; omega⟩
theorem cap_ren {H : Heap} {b : Blk} {g : FuncId} (L : List Blk) (top : Nat) (σ : List Nat) : AV.ren (rho ((H.ext [b]).ext L) top σ) (.fn (.func g) [] [.ptr (H.key 0) 0]) = .fn (.func g) [] [.ptr (H.key 0) 0] := by
 have : rho ((H.ext [b]).ext L) top σ (H.key 0) = H.key 0 := rho_old (by rw [Heap.nx_ext, Heap.toNat_key, Heap.toNat_key, Heap.nx_ext, Heap.toNat_key]; simp; omega)
 simp only [AV.ren, AV.rens, this]
theorem get_first {H : Heap} {b : Blk} (L M : List Blk) : ((H.ext (b :: L)).ext M).get (H.key 0) = some b := by
 rw [Heap.ext_append, Heap.get_ext_key _ _ _ (by simp)]; rfl
theorem f60_ok {v u : AV} {l : List Evn} {cs : List Cell} (hA : Arr H 4 v (l.map Evn.enc)) (hB : Arr H 5 u (cs.map Cell.enc)) (hl : l.length < 4294967296) (hc : cs.length < 4294967296) :
  FnOk Tryz.prog 60 [v, u] H fun r G => r = .bool (decide (isHist l cs)) ∧ G = H := by
 refine FnOk.assume fun hok => ?_
 refine FnOk.drop (R := fun r => r = .bool (decide (isHist l cs))) ?_ (by rintro v rfl ρ; rw [AV.ren])
 refine FnOk.of_WW Tryz.func60 rfl C60ok R60ok E0 good_E0 ?_
 have hlen := fun G => hA.len G; simp only [List.length_map] at hlen; have hren := hA.ren
 have hren2 := hB.ren
 have hag := fun {β : Type} => arr_agg hA (β := β)
 have hon := arr_one hA
 simp only [go_sem, C60, hag, hon]
 refine CL.bool (f129_ok (hB.ext _) hc) (fun g1 => ?_) (fun g1 => ?_)
 rotate_left
 ·simp only [go_sem]
  exact ⟨bool_f fun h => g1 h.1, _, rfl⟩
 simp only [go_sem, hlen]
 refine LL.st good_E0 (fun i : Nat => l.length - i) (fun i => i ≤ l.length ∧ ∀ j d, j < i → l[j]? = some d → (getL cs d.key).2 = true ∧ isEv d)
  (fun i => [((.o .z), u), ((.i .z), .ptr (H.key 0) 0), ((.i (.o (.i .z))), v), ((.o (.i (.i .z))), .int .i64 l.length), ((.i (.i (.i .z))), .int .i64 i)]) (fun i => [.row true 1 [[v]]]) ?_ 0 (σ := [0]) (Wk.of rfl (by decide) (by simp only [go_sem, hren, hren2]) (by simp only [go_sem, hren])) ⟨Nat.zero_le _, fun j d h => absurd h (Nat.not_lt_zero _)⟩
 rintro i ⟨hi, hno⟩
 by_cases hlt : i < l.length
 ·have hren' := hren
  obtain ⟨kk, r, ex', cap', wr, rows, hv, hrho, hgo, hrow⟩ := hA.at hok (j := i) (by rw [List.length_map]; exact hlt); simp only [List.length_map, List.getElem_map] at hv hrow; cases hv; have hget : l[i]? = some l[i] := List.getElem?_eq_getElem hlt; generalize l[i] = e at hrow hget; have hw := wrap_succ (n := i) (by omega); have hci : (i : Int) < (l.length : Int) := (by omega); have hsi : i + 1 ≤ l.length := (by omega)
  have hbad : ¬ ((getL cs e.key).2 = true ∧ isEv e) → AV.bool false = .bool (decide (isHist l cs)) := fun h => bool_f fun g => h (g.2.1 e (List.mem_of_getElem? hget))
  simp only [go_sem, hci, hsi, hgo, hrow, hw, Evn.enc]
  refine CL.of (f130_ok (hB.ext _) hc e.key) ?_
  rintro _ _ ⟨rfl, rfl⟩
  generalize hq : getL cs e.key = q at *
  obtain ⟨q, b⟩ := q
  cases b
  ·simp only [go_sem, Cell.enc]
   exact ⟨hbad fun h => (by cases h.1), _, rfl⟩
  ·simp only [go_sem, Cell.enc]
   refine CL.bool (f131_ok e) (fun g => ?_) (fun g => ?_)
   ·simp only [go_sem]
    refine ⟨i + 1, by show l.length - (i + 1) < l.length - i; omega, ⟨by omega, fun j d hj hd => ?_⟩, _, [0], rfl, Wk.of rfl (by decide) (by simp only [go_sem, hren2, hrho, hw]) (by simp only [go_sem, hrho])⟩
    rcases Nat.lt_or_ge j i with h | h
    ·exact hno j d h hd
    ·obtain rfl : j = i := by omega
     rw [hget] at hd; cases hd; exact ⟨by rw [hq], g⟩
   ·simp only [go_sem]
    exact ⟨hbad fun h => g h.2, _, rfl⟩
 ·have hci : ¬ (i : Int) < (l.length : Int) := by omega
  have hall : ∀ e ∈ l, (getL cs e.key).2 = true ∧ isEv e := fun e he => by
   obtain ⟨j, hj⟩ := List.mem_iff_getElem?.1 he
   exact hno j e (by have := (List.getElem?_eq_some_iff.1 hj).1; omega) hj
  simp only [go_sem, hci]
  refine CL.bool (f59_ok (hB.ext _) (by omega) (fun _ _ => call132 ..) (fun top σ => by have := cap_ren (H := H) (b := .row true 1 [[v]]) (g := 132) [] top σ; rwa [Heap.ext_nil] at this) (p := fun c => ¬ ofH l c) fun c hcm L => f132_ok (get_first [] L) ((hA.ext _).ext _) (by omega) c (g1.cell hcm).floor fun e he => (hall e he).2.ver) (fun g => ?_) (fun g => ?_)
  ·simp only [go_sem]
   obtain ⟨c, h1, h2⟩ := g
   exact ⟨bool_f fun h => h2 (h.2.2 c h1), _, rfl⟩
  ·simp only [go_sem]
   exact ⟨bool_t ⟨g1, hall, fun c hcm => Classical.byContradiction fun h => g ⟨c, hcm, h⟩⟩, _, rfl⟩
structure Sh where
 id : Int
 ep : Int
 fr : List Nat
 to : List Nat
 frz : Bool
 cells : List Cell
 evs : List Evn
 done : List Dn
 cv : AV
 ev : AV
 dv : AV
def Sh.enc (s : Sh) : List AV := [.int .i64 s.id, .int .i64 s.ep, .str s.fr, .str s.to, .bool s.frz, s.cv, s.ev, s.dv]
structure Sh.ok (H : Heap) (s : Sh) : Prop where
 c : Arr H 5 s.cv (s.cells.map Cell.enc)
 e : Arr H 4 s.ev (s.evs.map Evn.enc)
 d : Arr H 6 s.dv (s.done.map Dn.enc)
 dok : allOk H s.done
 cl : s.cells.length < 4294967296
 el : s.evs.length < 4294967296
 dl : s.done.length < 4294967296
theorem Sh.ok.ext {s : Sh} (h : s.ok H) (L : List Blk) : s.ok (H.ext L) := ⟨h.c.ext L, h.e.ext L, h.d.ext L, h.dok.ext L, h.cl, h.el, h.dl⟩
theorem Sh.ok.ren {s : Sh} (h : s.ok H) (top : Nat) (σ : List Nat) : AV.rens (rho H top σ) s.enc = s.enc := by
 simp only [Sh.enc, AV.rens, AV.ren, h.c.ren top σ, h.e.ren top σ, h.d.ren top σ]
def isSh (s : Sh) : Prop := (1 ≤ s.id ∧ s.id ≤ 1000000000000 ∧ 1 ≤ s.ep ∧ s.ep ≤ 1000000) ∧ isSpan s.fr s.to ∧ (∀ c ∈ s.cells, has s.fr s.to c.key) ∧ (s.evs.length : Int) ≤ 24 ∧ isHist s.evs s.cells ∧ isDone s.done
noncomputable instance (s : Sh) : Decidable (isSh s) := Classical.propDecidable _
theorem f56_ok {k : K} {wr : Bool} {s : Sh} (hk : H.get k = some (.row wr 8 [[.int .i64 s.id, .int .i64 s.ep, .str s.fr, .str s.to, .bool s.frz, s.cv, s.ev, s.dv]])) (c : Cell) :
  FnOk Tryz.prog 56 [.agg c.enc, .ptr k 0] H fun r G => r = .bool (decide (¬ has s.fr s.to c.key)) ∧ G = H := by
 refine FnOk.assume fun hok => ?_
 refine FnOk.drop (R := fun r => r = .bool (decide (¬ has s.fr s.to c.key))) ?_ (by rintro v rfl ρ; rw [AV.ren])
 refine FnOk.of_WW Tryz.func56 rfl C56ok R56ok E0 good_E0 ?_
 have hgo := Heap.get_ext_old hok hk
 simp only [go_sem, C56, Cell.enc, hgo]
 refine CL.bool (f57_ok s.fr s.to c.key) (fun g => ?_) (fun g => ?_)
 ·simp only [go_sem]
  exact ⟨bool_f fun h => h g, _, rfl⟩
 ·simp only [go_sem]
  exact ⟨bool_t g, _, rfl⟩
theorem f21_ok {s : Sh} (h : s.ok H) : FnOk Tryz.prog 21 [.agg s.enc] H fun r G => r = .bool (decide (isSh s)) ∧ G = H := by
 refine FnOk.assume fun hok => ?_
 refine FnOk.drop (R := fun r => r = .bool (decide (isSh s))) ?_ (by rintro v rfl ρ; rw [AV.ren])
 refine FnOk.of_WW Tryz.func21 rfl C21ok R21ok E0 good_E0 ?_
 have hlen := fun G => h.e.len G
 simp only [List.length_map] at hlen
 simp only [go_sem, C21, Sh.enc]
 have hbad : ¬ isSh s → AV.bool false = .bool (decide (isSh s)) := fun g => bool_f g
 refine ⟨fun g1 => ⟨hbad fun g => absurd g.1.1 (by omega), _, rfl⟩, fun g1 => ⟨fun g2 => ⟨hbad fun g => absurd g.1.2.1 (by omega), _, rfl⟩, fun g2 => ⟨fun g3 => ⟨hbad fun g => absurd g.1.2.2.1 (by omega), _, rfl⟩, fun g3 => ⟨fun g4 => ⟨hbad fun g => absurd g.1.2.2.2 (by omega), _, rfl⟩, fun g4 => ?_⟩⟩⟩⟩
 refine CL.bool (f58_ok s.fr s.to) (fun g5 => ?_) (fun g5 => ?_)
 rotate_left
 ·simp only [go_sem]
  exact ⟨hbad fun g => g5 g.2.1, _, rfl⟩
 simp only [go_sem]
 refine CL.bool (f59_ok (l := s.cells) (h.c.ext _) (by have := h.cl; omega) (fun _ _ => call56 ..) (fun top σ => by have := cap_ren (H := H) (b := .row true 8 [[.int .i64 s.id, .int .i64 s.ep, .str s.fr, .str s.to, .bool s.frz, s.cv, s.ev, s.dv]]) (g := 56) [] top σ; rwa [Heap.ext_nil] at this) (p := fun c => ¬ has s.fr s.to c.key) fun c hcm L => f56_ok (get_first [] L) c) (fun g6 => ?_) (fun g6 => ?_)
 ·simp only [go_sem]
  obtain ⟨c, h1, h2⟩ := g6
  exact ⟨hbad fun g => h2 (g.2.2.1 c h1), _, rfl⟩
 simp only [go_sem, hlen]
 refine ⟨fun g7 => ⟨hbad fun g => absurd g.2.2.2.1 (by omega), _, rfl⟩, fun g7 => ?_⟩
 refine CL.bool (f60_ok (h.e.ext _) (h.c.ext _) h.el h.cl) (fun g8 => ?_) (fun g8 => ?_)
 rotate_left
 ·simp only [go_sem]
  exact ⟨hbad fun g => g8 g.2.2.2.2.1, _, rfl⟩
 simp only [go_sem]
 refine CL.bool (f61_ok (h.d.ext _) (h.dok.ext _) (by have := h.dl; omega)) (fun g9 => ?_) (fun g9 => ?_)
 rotate_left
 ·simp only [go_sem]
  exact ⟨hbad fun g => g9 g.2.2.2.2.2, _, rfl⟩
 simp only [go_sem]
 exact ⟨bool_t ⟨⟨by omega, by omega, by omega, by omega⟩, g5, fun c hc => Classical.byContradiction fun g => g6 ⟨c, hc, g⟩, by omega, g8, g9⟩, _, rfl⟩
end Go.Proofs
namespace Go.Proofs
open Go Go.Ev
variable {H : Heap}
def runR (c : Cell) : List Evn → Int → Option Int
 | [], v => some v
 | e :: l, v => if e.key = c.key then (if e.ver = v + 1 ∧ (v + 1 = c.ver → e.val = c.value ∧ e.del = c.del) then runR c l (v + 1) else none) else runR c l v
theorem runR_ge {c : Cell} : ∀ {l : List Evn} {v w : Int}, runR c l v = some w → v ≤ w
 | [], v, w, h => by cases h; exact Int.le_refl _
 | e :: l, v, w, h => by
  rw [runR] at h
  split at h
  ·split at h
   ·have := runR_ge h; omega
   ·cases h
  ·exact runR_ge h
theorem ofG {c : Cell} : ∀ {l : List Evn} {at_ : Int} {last : Evn}, (∃ s, runE c.key l (at_, last) = some s ∧ s.1 = c.ver ∧ s.2.val = c.value ∧ s.2.del = c.del) ↔ (runR c l at_ = some c.ver ∧ (at_ = c.ver → last.val = c.value ∧ last.del = c.del))
 | [], at_, last => by
  rw [runE, runR]
  constructor
  ·rintro ⟨s, h, h1, h2, h3⟩
   cases h
   exact ⟨congrArg some h1, fun _ => ⟨h2, h3⟩⟩
  ·rintro ⟨h1, h2⟩
   have h1 : at_ = c.ver := Option.some.inj h1
   exact ⟨_, rfl, h1, (h2 h1).1, (h2 h1).2⟩
 | e :: l, at_, last => by
  rw [runE, runR]
  by_cases hk : e.key = c.key
  ·rw [if_pos hk, if_pos hk]
   by_cases hv : e.ver = at_ + 1
   ·rw [if_pos hv, ofG (l := l), hv]
    by_cases hq : at_ + 1 = c.ver → e.val = c.value ∧ e.del = c.del
    ·rw [if_pos ⟨rfl, hq⟩]
     refine ⟨fun h => ⟨h.1, fun g => ?_⟩, fun h => ⟨h.1, hq⟩⟩
     have := runR_ge h.1; omega
    ·rw [if_neg fun h => hq h.2]
     exact ⟨fun h => absurd h.2 hq, fun h => (by cases h.1)⟩
   ·rw [if_neg hv, if_neg fun h => hv h.1]
    exact ⟨fun ⟨s, h, _⟩ => (by cases h), fun h => (by cases h.1)⟩
  ·rw [if_neg hk, if_neg hk, ofG (l := l)]
theorem ofH_iff {l : List Evn} {c : Cell} : ofH l c ↔ runR c l c.floor = some c.ver := by
 unfold ofH
 rw [ofG]
 exact ⟨fun h => h.1, fun h => ⟨h, fun _ => ⟨rfl, rfl⟩⟩⟩
end Go.Proofs
namespace Go.Proofs
open Go Go.Ev
variable {H : Heap}
theorem appQ_none {esz bytes : Nat} {v : AV} {G : Heap} (hv : Arr G esz v []) : appQ esz bytes (some .nils) (some v) G = .val .nils G := by
 rcases hv with ⟨rfl, _⟩ | ⟨k, off, ex, cap, rfl, _, _⟩
 ·rfl
 ·rfl
end Go.Proofs
namespace Go.Proofs
open Go Go.Ev
variable {H : Heap}
theorem FnOk.dropW {f : FuncId} {args : List AV} {V : AV} {bs : List Blk} (h : FnOk Tryz.prog f args H fun v G => ∃ l σ, v = V.ren (rho H l.length σ) ∧ G = H.ext l ∧ bs.length = σ.length ∧ σ.Nodup ∧ WkB l (rho H l.length σ) bs σ) :
  FnOk Tryz.prog f args H fun v G => v = V ∧ G = H.ext bs := by
 refine h.wk ?_
 rintro v G ⟨l, σ, hv, hG, h1, h2, h3⟩
 exact ⟨l, bs, σ, V, hG, hv, h1, h2, h3.all, rfl, rfl⟩
def nilB (v : AV) : Bool := match v with | .nils => true | _ => false
theorem FnOk.dropZd {z : Bool} {f : FuncId} {args : List AV} {esz n : Nat} {xs : List (List AV)} (hn : xs.length = n) (hx : ∀ top σ, xs.map (AV.rens (rho H top σ)) = xs)
  (h : FnOk Tryz.prog f args H fun v G => ∃ l i, v = zV z (H.key i) esz n ∧ G = H.ext l ∧ ((zB z esz xs).live → l[i]? = some (zB z esz xs))) :
  FnOk Tryz.prog f args H fun v G => v = zV z H.nx esz n ∧ G = H.ext [zB z esz xs] := by
 subst hn
 refine h.wk ?_
 rintro v G ⟨l, i, rfl, rfl, hl⟩
 refine ⟨l, [zB z esz xs], [i], zV z H.nx esz xs.length, rfl, ?_, rfl, by simp, ?_, rfl, rfl⟩
 ·rw [zV_ren, ← Heap.key_zero, rho_key rfl]
 ·intro p hp
  simp only [List.zip_cons_cons, List.zip_nil_left, List.mem_singleton] at hp
  subst hp
  intro hlive
  show l[i]? = some (Blk.ren _ (zB z esz xs))
  rw [zB_ren _ (hx _ _), hl hlive]
theorem clone_zd {f : FuncId} {esz bytes : Nat} {zero : List AV} (hf : CloFn Tryz.prog f esz bytes zero) {v : AV} {xs : List (List AV)} (hA : Arr H esz v xs) (hb : (2 * xs.length + 192) * bytes ≤ 281474976710656) (hx : ∀ top σ, xs.map (AV.rens (rho H top σ)) = xs) :
  FnOk Tryz.prog f [v] H fun r G => r = zV (nilB v) H.nx esz xs.length ∧ G = H.ext [zB (nilB v) esz xs] := by
 refine FnOk.dropZd rfl hx ?_
 rcases hA with ⟨rfl, rfl⟩ | ⟨k, off, ex, cap, rfl, hk, h⟩
 ·refine (clone_nil hf).mono ?_
  rintro v G ⟨rfl, rfl⟩
  exact ⟨[], 0, rfl, (Heap.ext_nil _).symm, fun h => h.elim⟩
 ·rcases Nat.eq_zero_or_pos xs.length with h0 | h0
  ·obtain rfl := List.length_eq_zero_iff.1 h0
   refine (clone_zero hf).mono ?_
   rintro v G ⟨rfl, rfl⟩
   exact ⟨_, 0, rfl, rfl, fun _ => rfl⟩
  ·obtain ⟨r, wr, rows, rfl, hg, hrow⟩ := h (by intro e; rw [e] at h0; simp at h0)
   have hn : r + xs.length ≤ rows.length := by
    have := congrArg List.length hrow
    rw [List.length_take, List.length_drop] at this
    omega
   have key := clone_arr hf hg hn h0 hb (ex := ex) (cap := cap)
   rw [hrow] at key
   refine key.mono ?_
   rintro v G ⟨rfl, rfl⟩
   exact ⟨_, 1, (zV_pos h0).symm, rfl, fun _ => by rw [zB_pos h0]; rfl⟩
theorem zV_nil_o (k j : K) (esz n : Nat) : zV (nilB (outV k esz n)) j esz n = outV j esz n := by cases n <;> rfl
theorem zB_nil_o (k : K) (esz : Nat) (xs : List (List AV)) : zB (nilB (outV k esz xs.length)) esz xs = outB esz xs := by cases xs <;> rfl
theorem clone_o {f : FuncId} {esz bytes : Nat} {zero : List AV} (hf : CloFn Tryz.prog f esz bytes zero) {k : K} {xs : List (List AV)} {n : Nat} (hn : xs.length = n) (hA : Arr H esz (outV k esz n) xs) (hb : (2 * n + 192) * bytes ≤ 281474976710656) (hx : ∀ top σ, xs.map (AV.rens (rho H top σ)) = xs) :
  FnOk Tryz.prog f [outV k esz n] H fun r G => r = outV H.nx esz n ∧ G = H.ext [outB esz xs] := by
 subst hn
 have := clone_zd hf hA hb hx
 rw [zV_nil_o, zB_nil_o] at this
 exact this
theorem clo74 : CloFn Tryz.prog 114 5 56 [.str [], .str [], .int .i64 0, .bool false, .int .i64 0] := ⟨⟨Tryz.f114, Tryz.func114, by kernel_rfl, by kernel_rfl⟩, rfl, by decide⟩
theorem clo75 : CloFn Tryz.prog 115 4 48 [.str [], .int .i64 0, .str [], .bool false] := ⟨⟨Tryz.f115, Tryz.func115, by kernel_rfl, by kernel_rfl⟩, rfl, by decide⟩
@[go_sem] theorem agg_o {β : Type} (k : K) (e n : Nat) (f : β) (c : List AV → β) : asAggC (outV k e n) f c = f := by cases n <;> rfl
@[go_sem] theorem one_o (k : K) (e n : Nat) : AV.one (outV k e n) = true := by cases n <;> rfl
@[go_sem] theorem agg_z {β : Type} (z : Bool) (k : K) (e n : Nat) (f : β) (c : List AV → β) : asAggC (zV z k e n) f c = f := by cases n <;> cases z <;> rfl
@[go_sem] theorem one_z (z : Bool) (k : K) (e n : Nat) : AV.one (zV z k e n) = true := by cases n <;> cases z <;> rfl
@[go_sem] theorem rho_key4 (top i0 i1 i2 i3 j : Nat) (σ : List Nat) : rho H top (i0 :: i1 :: i2 :: i3 :: j :: σ) (H.key 4) = H.key j := rho_key rfl
@[go_sem] theorem rho_key5 (top i0 i1 i2 i3 i4 j : Nat) (σ : List Nat) : rho H top (i0 :: i1 :: i2 :: i3 :: i4 :: j :: σ) (H.key 5) = H.key j := rho_key rfl
@[go_sem] theorem rho_key6 (top i0 i1 i2 i3 i4 i5 j : Nat) (σ : List Nat) : rho H top (i0 :: i1 :: i2 :: i3 :: i4 :: i5 :: j :: σ) (H.key 6) = H.key j := rho_key rfl
@[go_sem] theorem rho_key7 (top i0 i1 i2 i3 i4 i5 i6 j : Nat) (σ : List Nat) : rho H top (i0 :: i1 :: i2 :: i3 :: i4 :: i5 :: i6 :: j :: σ) (H.key 7) = H.key j := rho_key rfl
@[go_sem] theorem rho_key8 (top i0 i1 i2 i3 i4 i5 i6 i7 j : Nat) (σ : List Nat) : rho H top (i0 :: i1 :: i2 :: i3 :: i4 :: i5 :: i6 :: i7 :: j :: σ) (H.key 8) = H.key j := rho_key rfl
@[go_sem] theorem rho_key9 (top i0 i1 i2 i3 i4 i5 i6 i7 i8 j : Nat) (σ : List Nat) : rho H top (i0 :: i1 :: i2 :: i3 :: i4 :: i5 :: i6 :: i7 :: i8 :: j :: σ) (H.key 9) = H.key j := rho_key rfl
@[go_sem] theorem rho_key10 (top i0 i1 i2 i3 i4 i5 i6 i7 i8 i9 j : Nat) (σ : List Nat) : rho H top (i0 :: i1 :: i2 :: i3 :: i4 :: i5 :: i6 :: i7 :: i8 :: i9 :: j :: σ) (H.key 10) = H.key j := rho_key rfl
@[go_sem] theorem rho_key11 (top i0 i1 i2 i3 i4 i5 i6 i7 i8 i9 i10 j : Nat) (σ : List Nat) : rho H top (i0 :: i1 :: i2 :: i3 :: i4 :: i5 :: i6 :: i7 :: i8 :: i9 :: i10 :: j :: σ) (H.key 11) = H.key j := rho_key rfl
@[go_sem] theorem rho_key12 (top i0 i1 i2 i3 i4 i5 i6 i7 i8 i9 i10 i11 j : Nat) (σ : List Nat) : rho H top (i0 :: i1 :: i2 :: i3 :: i4 :: i5 :: i6 :: i7 :: i8 :: i9 :: i10 :: i11 :: j :: σ) (H.key 12) = H.key j := rho_key rfl
@[go_sem] theorem rho_key13 (top i0 i1 i2 i3 i4 i5 i6 i7 i8 i9 i10 i11 i12 j : Nat) (σ : List Nat) : rho H top (i0 :: i1 :: i2 :: i3 :: i4 :: i5 :: i6 :: i7 :: i8 :: i9 :: i10 :: i11 :: i12 :: j :: σ) (H.key 13) = H.key j := rho_key rfl
end Go.Proofs
namespace Go.Proofs
open Go Go.Ev
variable {H : Heap}
def flo (e : Evn) (c : Cell) : Cell := if c.key = e.key then { c with floor := max c.floor e.ver } else c
def keepC (l : List Evn) (cs : List Cell) : List Cell := l.foldl (fun cs e => cs.map (flo e)) cs
theorem keepC_len (l : List Evn) : ∀ cs : List Cell, (keepC l cs).length = cs.length := by
 induction l with
 | nil => intro cs; rfl
 | cons e l ih => intro cs; show (keepC l (cs.map (flo e))).length = _; rw [ih, List.length_map]
theorem keepC_succ {l : List Evn} {i : Nat} {e : Evn} (h : l[i]? = some e) (cs : List Cell) : keepC (l.take (i + 1)) cs = (keepC (l.take i) cs).map (flo e) := by
 rw [take_next h, keepC, List.foldl_append]; rfl
def keepJ (e : Evn) (cs : List Cell) (j : Nat) : List Cell := (cs.take j).map (flo e) ++ cs.drop j
theorem keepJ_len (e : Evn) (cs : List Cell) {j : Nat} (hj : j ≤ cs.length) : (keepJ e cs j).length = cs.length := by
 unfold keepJ; rw [List.length_append, List.length_map, List.length_take, List.length_drop]; omega
theorem keepJ_at {e : Evn} {cs : List Cell} {j : Nat} {c : Cell} (h : cs[j]? = some c) : (keepJ e cs j)[j]? = some c := by
 have hj := (List.getElem?_eq_some_iff.1 h).1
 unfold keepJ
 rw [List.getElem?_append_right (by rw [List.length_map, List.length_take]; omega), List.length_map, List.length_take, List.getElem?_drop, show j + (j - min j cs.length) = j by omega, h]
theorem keepJ_next {e : Evn} {cs : List Cell} {j : Nat} {c : Cell} (h : cs[j]? = some c) : keepJ e cs (j + 1) = (keepJ e cs j).set j (flo e c) := by
 have hj := (List.getElem?_eq_some_iff.1 h).1
 unfold keepJ
 have hl : ((cs.take j).map (flo e)).length = j := by rw [List.length_map, List.length_take]; omega
 rw [List.set_append, if_neg (by omega), hl, Nat.sub_self, take_next h, List.map_append, List.append_assoc]
 congr 1
 have : cs.drop j = c :: cs.drop (j + 1) := by
  obtain ⟨hj, rfl⟩ := List.getElem?_eq_some_iff.1 h
  exact (List.drop_eq_getElem_cons hj)
 rw [this]; rfl
theorem clone_n {f : FuncId} {esz bytes : Nat} {zero : List AV} (hf : CloFn Tryz.prog f esz bytes zero) {v : AV} {xs : List (List AV)} {n : Nat} (hn : xs.length = n) (h0 : n = 0 → v = .nils) (hA : Arr H esz v xs) (hb : (2 * n + 192) * bytes ≤ 281474976710656) (hx : ∀ top σ, xs.map (AV.rens (rho H top σ)) = xs) :
  FnOk Tryz.prog f [v] H fun r G => r = outV H.nx esz n ∧ G = H.ext [outB esz xs] := by
 subst hn
 have := clone_zd hf hA hb hx
 cases xs with
 | nil => rw [h0 rfl] at this ⊢; exact this
 | cons x xs => exact this
theorem flo_no {e : Evn} {c : Cell} (h : ¬ c.key = e.key) : flo e c = c := if_neg h
theorem flo_yes {e : Evn} {c : Cell} (h : c.key = e.key) : (flo e c).enc = [.str c.key, .str c.value, .int .i64 c.ver, .bool c.del, .int .i64 (max c.floor e.ver)] := by rw [flo, if_pos h]; rfl
theorem set_self {α : Type} {l : List α} {j : Nat} {x : α} (h : l[j]? = some x) : l.set j x = l := by
 obtain ⟨hj, rfl⟩ := List.getElem?_eq_some_iff.1 h
 exact List.set_getElem_self hj
theorem f240_ok {k : K} {v u : AV} {xs : List Evn} {cs : List Cell} (hv : v = outV k 4 xs.length) {k' : K} (hu : u = outV k' 5 cs.length) (hA : Arr H 4 v (xs.map Evn.enc)) (hB : Arr H 5 u (cs.map Cell.enc)) (hx : xs.length < 100000) (hc : cs.length < 100000) :
  FnOk Tryz.prog 240 [v, u, .int .i64 24] H fun r G => r = .tup [outV (H.key 1) 4 (xs.drop (xs.length - 24)).length, outV (H.key 0) 5 cs.length] ∧ G = H.ext [outB 5 ((keepC (xs.take (xs.length - 24)) cs).map Cell.enc), outB 4 ((xs.drop (xs.length - 24)).map Evn.enc)] := by
 refine FnOk.assume fun hok => ?_
 refine FnOk.dropW ?_
 subst hu
 refine FnOk.of_WW Tryz.func240 rfl C240ok R240ok E0 good_E0 ?_
 have hlen := fun G => hA.len G
 simp only [List.length_map] at hlen
 have hren := hA.ren
 have m1 : max (24 : Int) 0 = 24 := rfl
 have m2 : IntKind.i64.wrap ((xs.length : Int) - 24) = (xs.length : Int) - 24 := wrap_i64 (by omega) (by omega)
 have m3 : max ((xs.length : Int) - 24) 0 = ((xs.length - 24 : Nat) : Int) := by omega
 obtain ⟨g, hg⟩ : ∃ g, g = xs.length - 24 := ⟨_, rfl⟩
 have hgl : g ≤ xs.length := by omega
 rw [← hg] at m3
 rw [← hg]
 obtain ⟨w1, w2, hs1, hs2, hA1, hn2, hA2⟩ : ∃ w1 w2, (∀ G, (asSliceC v R1.fail (if g = 0 then R1.val AV.nils G else R1.fail) fun k off len es ex cap =>
   if es = 4 ∧ 0 ≤ g ∧ g ≤ cap ∧ cap ≤ cap then
    bif' (ex && decide (cap - 0 = 0)) (R1.val (AV.slice k off (g - 0) es ex (cap - 0)) G) (R1.val (AV.slice k (off + 0 * es) (g - 0) es ex (cap - 0)) G)
   else R1.fail) = R1.val w1 G) ∧ (∀ G, (asSliceC v R1.fail (if g = 0 then R1.val AV.nils G else R1.fail) fun k off len es ex cap =>
   if es = 4 ∧ g ≤ len ∧ len ≤ cap ∧ cap ≤ cap then
    bif' (ex && decide (cap - g = 0)) (R1.val (AV.slice k off (len - g) es ex (cap - g)) G) (R1.val (AV.slice k (off + g * es) (len - g) es ex (cap - g)) G)
   else R1.fail) = R1.val w2 G) ∧ Arr H 4 w1 ((xs.take g).map Evn.enc) ∧ ((xs.drop g).length = 0 → w2 = .nils) ∧ Arr H 4 w2 ((xs.drop g).map Evn.enc) := by
  rcases Nat.eq_zero_or_pos xs.length with h0 | h0
  ·obtain rfl := List.length_eq_zero_iff.1 h0
   have hg0 : g = 0 := by simpa using hg
   subst hv hg0
   refine ⟨.nils, .nils, fun G => rfl, fun G => rfl, .inl ⟨rfl, rfl⟩, fun _ => rfl, .inl ⟨rfl, rfl⟩⟩
  ·have hvs : v = .slice k 0 xs.length 4 false xs.length := by rw [hv, outV_pos h0]
   have hgx : g < xs.length := by omega
   have hh := hA
   rw [hvs] at hh
   rcases hh with ⟨e, _⟩ | ⟨k1, off, ex, cap, e, hk, h⟩
   ·cases e
   ·obtain ⟨r, wr, rows, hr, hgk, hrow⟩ := h (by intro e; rw [List.map_eq_nil_iff] at e; rw [e] at h0; exact absurd h0 (by simp))
    rw [List.length_map] at e
    cases e
    obtain rfl : r = 0 := by omega
    simp only [List.drop_zero, List.length_map] at hrow
    refine ⟨.slice k 0 g 4 false xs.length, .slice k (g * 4) (xs.length - g) 4 false (xs.length - g), fun G => ?_, fun G => ?_, ?_, fun h => by rw [List.length_drop] at h; omega, ?_⟩
    ·rw [hvs]
     show (if 4 = 4 ∧ 0 ≤ g ∧ g ≤ xs.length ∧ xs.length ≤ xs.length then R1.val (AV.slice k (0 + 0 * 4) (g - 0) 4 false (xs.length - 0)) G else R1.fail) = _
     rw [if_pos ⟨rfl, by omega, by omega, by omega⟩]; rfl
    ·rw [hvs]
     show (if 4 = 4 ∧ g ≤ xs.length ∧ xs.length ≤ xs.length ∧ xs.length ≤ xs.length then R1.val (AV.slice k (0 + g * 4) (xs.length - g) 4 false (xs.length - g)) G else R1.fail) = _
     rw [if_pos ⟨rfl, by omega, by omega, by omega⟩, Nat.zero_add]
    ·refine .inr ⟨k, 0, false, xs.length, by rw [List.length_map, List.length_take, Nat.min_eq_left hgl], hk, fun _ => ⟨0, wr, rows, by omega, hgk, ?_⟩⟩
     rw [List.drop_zero, List.map_take, ← hrow, List.length_take, List.take_take]
     congr 1
     rw [List.length_take]
     have := congrArg List.length hrow
     rw [List.length_take, List.length_map] at this
     omega
    ·refine .inr ⟨k, g * 4, false, xs.length - g, by rw [List.length_map, List.length_drop], hk, fun _ => ⟨g, wr, rows, rfl, hgk, ?_⟩⟩
     rw [List.map_drop, ← hrow, List.length_drop, List.length_take, List.drop_take]
     congr 1
     have := congrArg List.length hrow
     rw [List.length_take, List.length_map] at this
     omega
 have hlen1 := fun G => hA1.len G
 simp only [List.length_map, List.length_take, Nat.min_eq_left hgl] at hlen1
 have hren1 := hA1.ren
 simp only [go_sem, C240, hlen, m1, m2, m3]
 refine CL.of (clone_o clo74 (List.length_map ..) (hB.ext _) (by omega) (fun _ _ => Cell.map_rens _ _)) ?_
 rintro _ _ ⟨rfl, rfl⟩
 simp only [go_sem, hlen, m1, m2, m3, hs1, hlen1]
 refine LL.st good_E0 (fun i : Nat => g - i) (fun i => i ≤ g)
  (fun i => [(.z, v), ((.i (.o (.o .z))), .int .i64 g), ((.o (.i (.o .z))), outV (H.key 0) 5 cs.length), ((.o (.o (.o (.i .z)))), w1), ((.i (.o (.o (.i .z)))), .int .i64 g), ((.o (.i (.o (.i .z)))), .int .i64 i)])
  (fun i => [outB 5 ((keepC (xs.take i) cs).map Cell.enc)]) ?_ 0 (σ := [0]) (Wk.of rfl (by decide) (by simp only [go_sem, hren, hren1, outV_ren']) (by simp only [go_sem, keepC, List.foldl_nil, ↓outB_ren', Cell.map_rens, implies_true])) (Nat.zero_le _)
 rintro i hi
 by_cases hlt : i < g
 ·obtain ⟨kk, r, ex', cap', wr, rows, hv1, hrho, hgo, hrow⟩ := hA1.at hok (j := i) (by rw [List.length_map, List.length_take]; omega)
  simp only [List.length_map, List.getElem_map, List.length_take, Nat.min_eq_left hgl, List.getElem_take] at hv1 hrow
  have hget : xs[i]? = some (xs[i]'(by omega)) := List.getElem?_eq_getElem (by omega)
  generalize (xs[i]'(by omega)) = e at hrow hget
  have hw := wrap_succ (n := i) (by omega)
  have hci : (i : Int) < (g : Int) := (by omega)
  have hsi : i + 1 ≤ g := (by omega)
  have hcl := keepC_len (xs.take i) cs
  have hnew := keepC_succ hget cs
  generalize keepC (xs.take i) cs = X at hcl hnew
  simp only [go_sem, hv1, hci, hsi, hgo, hrow, hw, Evn.enc]
  refine LL.st good_E0 (fun j : Nat => cs.length - j) (fun j => j ≤ cs.length)
   (fun j => [(.z, v), ((.i (.o (.o .z))), .int .i64 g), ((.o (.i (.o .z))), outV (H.key 0) 5 cs.length), ((.o (.o (.i .z))), .ptr (H.key 1) 0), ((.o (.o (.o (.i .z)))), .slice kk (r * 4) g 4 ex' cap'), ((.i (.o (.o (.i .z)))), .int .i64 g), ((.o (.i (.o (.i .z)))), .int .i64 i), ((.i (.i (.i (.i .z)))), .int .i64 cs.length), ((.o (.o (.o (.o (.o .z))))), .int .i64 j)])
   (fun j => [outB 5 ((keepJ e X j).map Cell.enc), .row true 4 [[.str e.key, .int .i64 e.ver, .str e.val, .bool e.del]]]) ?_ 0 (σ := [0, 1]) (Wk.of rfl (by decide) (by simp only [go_sem, hren, hrho, outV_ren']) (by simp only [go_sem, keepJ, ↓outB_ren', Cell.map_rens, implies_true])) (Nat.zero_le _)
  rintro j hj
  by_cases hjt : j < cs.length
  ·have hXj : X[j]? = some (X[j]'(by omega)) := List.getElem?_eq_getElem (by omega)
   generalize (X[j]'(by omega)) = c at hXj
   have hKj := keepJ_at (e := e) hXj
   have hKn := keepJ_next (e := e) hXj
   have hKl := keepJ_len e X (j := j) (by omega)
   generalize keepJ e X j = Y at hKj hKn hKl
   have hoB : outB 5 (Y.map Cell.enc) = .row true 5 (Y.map Cell.enc) := outB_pos (by rw [List.length_map]; omega)
   have hoV : outV (H.key 0) 5 cs.length = .slice (H.key 0) 0 cs.length 5 false cs.length := outV_pos (by omega)
   have hrow2 : (Y.map Cell.enc)[j]? = some c.enc := by rw [List.getElem?_map, hKj]; rfl
   have hjw := wrap_succ (n := j) (by omega)
   have hjc : (j : Int) < (cs.length : Int) := (by omega)
   have hjs : j + 1 ≤ cs.length := (by omega)
   simp only [go_sem, hjc, hjs, hoV, hoB, hrow2, hjw, Cell.enc]
   have hn1 : outB 5 ((keepJ e X (j + 1)).map Cell.enc) = .row true 5 ((Y.map Cell.enc).set j (flo e c).enc) := by
    rw [hKn, outB_pos (by rw [List.length_map, List.length_set]; omega), List.map_set]
   have hrn : ∀ top σ, List.map (AV.rens (rho H top σ)) ((Y.map Cell.enc).set j (flo e c).enc) = (Y.map Cell.enc).set j (flo e c).enc := fun top σ => by rw [← List.map_set]; exact Cell.map_rens _ _
   refine ⟨fun g1 => ⟨j + 1, by show cs.length - (j + 1) < cs.length - j; omega, hjs, _, [0, 1], rfl, Wk.of rfl (by decide) (by simp only [go_sem, hren, hrho]) ?_⟩, fun g1 => ⟨j + 1, by show cs.length - (j + 1) < cs.length - j; omega, hjs, _, [0, 1], rfl, Wk.of rfl (by decide) (by simp only [go_sem, hren, hrho]) ?_⟩⟩
   ·dsimp only
    rw [hn1, ← flo_yes g1]
    refine ⟨fun _ => ?_, fun _ => rfl, trivial⟩
    show some _ = some (Blk.row true 5 (List.map (AV.rens _) _))
    rw [hrn]
   ·rw [flo_no g1, set_self hrow2] at hn1 hrn
    dsimp only
    rw [hn1]
    refine ⟨fun _ => ?_, fun _ => rfl, trivial⟩
    show some _ = some (Blk.row true 5 (List.map (AV.rens _) _))
    rw [hrn]
  ·have hjc : ¬ (j : Int) < (cs.length : Int) := (by omega)
   simp only [go_sem, hjc, hw]
   have hk2 : keepJ e X j = X.map (flo e) := by
    unfold keepJ
    rw [List.take_of_length_le (by omega), List.drop_eq_nil_of_le (by omega), List.append_nil]
   rw [hk2, ← hnew]
   refine ⟨i + 1, by show g - (i + 1) < g - i; omega, ?_, _, [0], rfl, Wk.of rfl (by decide) (by simp only [go_sem, hren, hrho, outV_ren']) (by simp only [go_sem, ↓outB_ren', Cell.map_rens, implies_true])⟩
   exact hsi
 ·have hci : ¬ (i : Int) < (g : Int) := (by omega)
  simp only [go_sem, hci, hs2]
  obtain rfl : i = g := by omega
  refine CL.of (clone_n clo75 (List.length_map ..) hn2 (hA2.ext _) (by rw [List.length_drop]; omega) (fun _ _ => Evn.map_rens _ _)) ?_
  rintro _ _ ⟨rfl, rfl⟩
  simp only [go_sem]
  exact ⟨_, [0, 1], by simp only [outV_ren', go_sem], rfl, rfl, by decide, by simp only [go_sem, ↓outB_ren', Cell.map_rens, Evn.map_rens, implies_true]⟩
end Go.Proofs
namespace Go.Proofs
open Go Go.Ev
variable {H : Heap}
section
variable {α : Type}
noncomputable def theO (p : α → Prop) : Option α := open Classical in if h : ∃ x, p x then some (Classical.choose h) else none
theorem theO_eq {p : α → Prop} {x : α} (h : p x) (hu : ∀ y, p y → y = x) : theO p = some x := by
 unfold theO
 have hex : ∃ x, p x := ⟨x, h⟩
 rw [dif_pos hex]
 exact congrArg some (hu _ (Classical.choose_spec hex))
theorem theO_spec {p : α → Prop} {x : α} (h : theO p = some x) : p x := by
 unfold theO at h
 split at h
 ·rename_i hex
  cases h
  exact Classical.choose_spec hex
 ·cases h
noncomputable def ot (p : α → Prop) (c : α → RC) : RC := match theO p with | some x => c x | none => .fail
theorem ot_eq {p : α → Prop} {x : α} (h : p x) (hu : ∀ y, p y → y = x) (c : α → RC) : ot p c = c x := by
 unfold ot; rw [theO_eq h hu]
theorem ot_ok {p : α → Prop} {c : α → RC} {r : AV} {G : Heap} (h : ot p c = .ok r G) : ∃ x, p x ∧ c x = .ok r G := by
 unfold ot at h
 split at h
 ·rename_i x hx
  exact ⟨x, theO_spec hx, h⟩
 ·cases h
end
theorem Cell.enc_one {a b : Cell} (h : a.enc = b.enc) : a = b := by
 cases a; cases b; simp [Cell.enc] at h; simp [h]
theorem Evn.enc_one {a b : Evn} (h : a.enc = b.enc) : a = b := by
 cases a; cases b; simp [Evn.enc] at h; simp [h]
theorem cells_uniq {v : AV} {xs ys : List Cell} (h : Arr H 5 v (xs.map Cell.enc)) (h2 : Arr H 5 v (ys.map Cell.enc)) : xs = ys :=
 List.map_inj_right (fun _ _ => Cell.enc_one) |>.1 (Arr.uniq h h2 (by decide))
theorem evs_uniq {v : AV} {xs ys : List Evn} (h : Arr H 4 v (xs.map Evn.enc)) (h2 : Arr H 4 v (ys.map Evn.enc)) : xs = ys :=
 List.map_inj_right (fun _ _ => Evn.enc_one) |>.1 (Arr.uniq h h2 (by decide))
theorem dns_inj : ∀ {l m : List Dn}, l.map Dn.enc = m.map Dn.enc → allOk H l → allOk H m → l = m
 | [], [], _, _, _ => rfl
 | [], _ :: _, h, _, _ => by cases h
 | _ :: _, [], h, _, _ => by cases h
 | x :: l, y :: m, h, ha, hb => by
  rw [List.map_cons, List.map_cons] at h
  injection h with h1 h2
  have h3 := dns_inj h2 (fun d hd => ha d (by simp [hd])) (fun d hd => hb d (by simp [hd]))
  have hx := ha x (by simp)
  have hy := hb y (by simp)
  obtain ⟨xs, xi, xc, xv, xn, xr, xw⟩ := x
  obtain ⟨ys, yi, yc, yv, yn, yr, yw⟩ := y
  simp only [Dn.enc, List.cons.injEq, AV.int.injEq, AV.str.injEq, true_and, and_true] at h1
  obtain ⟨rfl, rfl, rfl, rfl, rfl, rfl⟩ := h1
  have : xr = yr := List.map_inj_right (fun _ _ => Rw.enc_one) |>.1 (Arr.uniq hx.1 hy.1 (by decide))
  rw [this, h3]
theorem Sh.uniq {s t : Sh} (h : s.enc = t.enc) (hs : s.ok H) (ht : t.ok H) : s = t := by
 obtain ⟨id, ep, fr, to, fz, cs, es, ds, cv, ev, dv⟩ := s
 obtain ⟨id', ep', fr', to', fz', cs', es', ds', cv', ev', dv'⟩ := t
 simp only [Sh.enc, List.cons.injEq, AV.int.injEq, AV.str.injEq, AV.bool.injEq, true_and, and_true] at h
 obtain ⟨rfl, rfl, rfl, rfl, rfl, rfl, rfl, rfl⟩ := h
 obtain rfl := cells_uniq hs.c ht.c
 obtain rfl := evs_uniq hs.e ht.e
 obtain rfl := dns_inj (Arr.uniq hs.d ht.d (by decide)) hs.dok ht.dok
 rfl
def A50 (H : Heap) (args : List AV) (q : List Evn × List Cell) : Prop := ∃ k k', args = [outV k 4 q.1.length, outV k' 5 q.2.length, .int .i64 24] ∧ Arr H 4 (outV k 4 q.1.length) (q.1.map Evn.enc) ∧ Arr H 5 (outV k' 5 q.2.length) (q.2.map Cell.enc) ∧ q.1.length < 100000 ∧ q.2.length < 100000
end Go.Proofs
namespace Go.Proofs
open Go Go.Ev
variable {H : Heap}
abbrev Ord (l : List Cell) : Prop := List.Pairwise (fun x y : Cell => ltS x.key y.key) l
theorem isIdx_all {l : List Cell} (h : isIdx l) : ∀ c ∈ l, cellIs c := fun c hc => h.cell hc
theorem isIdx_of {l : List Cell} (h : ∀ c ∈ l, cellIs c) (ho : Ord l) : isIdx l := by
 intro j hj
 refine ⟨l[j], List.getElem?_eq_getElem hj, h _ (List.getElem_mem hj), fun h0 => ⟨l[j - 1], List.getElem?_eq_getElem (by omega), ?_⟩⟩
 exact (List.pairwise_iff_getElem.1 ho) (j - 1) j (by omega) hj (by omega)
theorem getL_true {k : List Nat} : ∀ {l : List Cell}, (getL l k).2 = true ↔ ∃ c ∈ l, c.key = k
 | [] => by simp [getL]
 | c :: l => by
  rw [getL]
  by_cases h : c.key = k
  ·rw [if_pos h]; exact ⟨fun _ => ⟨c, by simp, h⟩, fun _ => rfl⟩
  ·rw [if_neg h, getL_true]
   constructor
   ·rintro ⟨d, h1, h2⟩; exact ⟨d, by simp [h1], h2⟩
   ·rintro ⟨d, h1, h2⟩
    rcases List.mem_cons.1 h1 with rfl | h1
    ·exact absurd h2 h
    ·exact ⟨d, h1, h2⟩
theorem runR_none {c : Cell} : ∀ {l : List Evn} {v : Int}, (∀ e ∈ l, ¬ e.key = c.key) → runR c l v = some v
 | [], v, _ => rfl
 | e :: l, v, h => by
  rw [runR, if_neg (h e (by simp)), runR_none fun e he => h e (by simp [he])]
theorem runR_append {c : Cell} : ∀ {a b : List Evn} {v : Int}, runR c (a ++ b) v = (runR c a v).bind fun w => runR c b w
 | [], b, v => rfl
 | e :: a, b, v => by
  rw [List.cons_append, runR, runR]
  split
  ·split
   ·exact runR_append
   ·rfl
  ·exact runR_append
section
variable {s : Sh} {k : List Nat}
section
variable {l r id : Int} {k0 k1 k2 k3 k4 k5 : K}
end
end
end Go.Proofs
namespace Go.Proofs
open Go Go.Ev
variable {H : Heap}
def kc1 : Cell := ⟨[97], [], 1, false, 0⟩
def kc2 : Cell := ⟨[109], [], 1, false, 1⟩
def ke1 : Evn := ⟨[97], 1, [], false⟩
noncomputable def kS (H : Heap) : Sh := ⟨1, 4, [], [], false, [kc1, kc2], [ke1], [], .slice (H.key 0) 0 2 5 true 2, .slice (H.key 1) 0 1 4 true 1, .nils⟩
theorem k_span : isSpan [] [] := ⟨by decide, by decide, .inl rfl⟩
end Go.Proofs
namespace Go.Proofs
open Go Go.Ev
variable {H : Heap}
def fewS (s : Sh) : Prop := s.cells.length ≤ 30 ∧ s.evs.length ≤ 40 ∧ s.done.length ≤ 6
instance (s : Sh) : Decidable (fewS s) := inferInstanceAs (Decidable (_ ∧ _))
end Go.Proofs
namespace Go.Proofs
open Go Go.Ev
variable {H : Heap}
def newD (_ d : Dn) : Dn := d
theorem putGD_lo {f : Dn → Dn → Dn} {d : Dn} {q : List Dn} : ∀ {p : List Dn}, (∀ x ∈ p, x.ses < d.ses) → putGD f (p ++ q) d = p ++ putGD f q d
 | [], _ => rfl
 | x :: p, h => by
  rw [List.cons_append, putGD, if_pos (h x (by simp)), putGD_lo (p := p) fun y hy => h y (by simp [hy])]; rfl
theorem putGD_hi {f : Dn → Dn → Dn} {d c : Dn} : ∀ {p : List Dn}, (∃ x ∈ p, d.ses ≤ x.ses) → putGD f (p ++ [c]) d = putGD f p d ++ [c]
 | [], h => by obtain ⟨x, h, _⟩ := h; cases h
 | x :: p, h => by
  rw [List.cons_append, putGD, putGD]
  by_cases h1 : x.ses < d.ses
  ·rw [if_pos h1, if_pos h1, putGD_hi (p := p) ?_]; · rfl
   obtain ⟨y, hy, h2⟩ := h
   rcases List.mem_cons.1 hy with rfl | hy
   ·omega
   ·exact ⟨y, hy, h2⟩
  ·rw [if_neg h1, if_neg h1]
   by_cases h2 : x.ses = d.ses
   ·rw [if_pos h2, if_pos h2]; rfl
   ·rw [if_neg h2, if_neg h2]; rfl
theorem putGD_same {f g : Dn → Dn → Dn} {d : Dn} : ∀ {l : List Dn}, (∀ x ∈ l, x.ses = d.ses → f x d = g x d) → putGD f l d = putGD g l d
 | [], _ => rfl
 | x :: l, h => by
  rw [putGD, putGD, putGD_same (l := l) fun y hy => h y (by simp [hy])]
  by_cases h2 : x.ses = d.ses
  ·rw [h x (by simp) h2]
  ·rw [if_neg h2, if_neg h2]
def anyGe (l : List Dn) (d : Dn) : Bool := l.any fun c => decide (d.ses ≤ c.ses)
theorem anyGe_t {l : List Dn} {d : Dn} : anyGe l d = true ↔ ∃ x ∈ l, d.ses ≤ x.ses := by
 unfold anyGe
 rw [List.any_eq_true]
 exact ⟨fun ⟨x, h1, h2⟩ => ⟨x, h1, of_decide_eq_true h2⟩, fun ⟨x, h1, h2⟩ => ⟨x, h1, decide_eq_true h2⟩⟩
theorem anyGe_f {l : List Dn} {d : Dn} : anyGe l d = false ↔ ∀ x ∈ l, x.ses < d.ses := by
 rw [← Bool.not_eq_true, anyGe_t]
 exact ⟨fun h x hx => Classical.byContradiction fun g => h ⟨x, hx, by omega⟩, fun h ⟨x, hx, g⟩ => by have := h x hx; omega⟩
noncomputable def accR (l : List Dn) (d : Dn) : List Dn := if anyGe l d then putGD newD l d else l
theorem accR_ok {l : List Dn} {d : Dn} (h : allOk H l) (hd : d.an.ok H) : allOk H (accR l d) := fun c hc => by
 unfold accR at hc
 split at hc
 ·rcases mem_putGD hc with rfl | hc | ⟨x, _, _, rfl⟩
  ·exact hd
  ·exact h c hc
  ·exact hd
 ·exact h c hc
theorem accR_len {l : List Dn} {d : Dn} : (accR l d).length ≤ l.length + 1 := by
 unfold accR
 split
 ·exact putGD_len
 ·omega
theorem any_snoc (l : List Dn) (c d : Dn) : anyGe (l ++ [c]) d = (anyGe l d || decide (d.ses ≤ c.ses)) := by
 unfold anyGe; rw [List.any_append, List.any_cons, List.any_nil, Bool.or_false]
theorem accR_lo {l : List Dn} {c d : Dn} (h : anyGe l d = false) (hc : ¬ d.ses ≤ c.ses) : anyGe (l ++ [c]) d = false ∧ accR (l ++ [c]) d = accR l d ++ [c] := by
 have h1 : anyGe (l ++ [c]) d = false := by rw [any_snoc, h, decide_eq_false hc]; rfl
 refine ⟨h1, ?_⟩
 unfold accR
 rw [h1, h]; rfl
theorem accR_now {l : List Dn} {c d : Dn} (h : anyGe l d = false) (hc : d.ses ≤ c.ses) : anyGe (l ++ [c]) d = true ∧ (¬ c.ses = d.ses → accR (l ++ [c]) d = accR l d ++ [d] ++ [c]) ∧ (c.ses = d.ses → accR (l ++ [c]) d = accR l d ++ [d]) := by
 have h1 : anyGe (l ++ [c]) d = true := by rw [any_snoc, h, decide_eq_true hc]; rfl
 refine ⟨h1, fun hn => ?_, fun hn => ?_⟩
 ·unfold accR
  rw [h1, h, if_pos rfl, if_neg (by decide), putGD_lo (anyGe_f.1 h), putGD, if_neg (by omega), if_neg hn, List.append_assoc]; rfl
 ·unfold accR
  rw [h1, h, if_pos rfl, if_neg (by decide), putGD_lo (anyGe_f.1 h), putGD, if_neg (by omega), if_pos hn]; rfl
theorem accR_hi {l : List Dn} {c d : Dn} (h : anyGe l d = true) : anyGe (l ++ [c]) d = true ∧ accR (l ++ [c]) d = accR l d ++ [c] := by
 have h1 : anyGe (l ++ [c]) d = true := by rw [any_snoc, h]; rfl
 refine ⟨h1, ?_⟩
 unfold accR
 rw [h1, h, if_pos rfl, if_pos rfl, putGD_hi (anyGe_t.1 h)]
def keepsD (l : List Dn) (d : Dn) : Prop := ∃ x, findD l d.ses = some x ∧ d.id < x.id
theorem withD_new {l : List Dn} {d : Dn} (h : upD l) (hk : ¬ keepsD l d) : withD l d = putGD newD l d := by
 refine putGD_same fun x hx hs => ?_
 have := findD_at h hx
 rw [hs] at this
 have hle : x.id ≤ d.id := Classical.byContradiction fun g => hk ⟨x, this, by omega⟩
 rw [lateD, if_pos hle]; rfl
theorem withD_end {l : List Dn} {d : Dn} (h : upD l) (hk : ¬ keepsD l d) : (anyGe l d = true → withD l d = accR l d) ∧ (anyGe l d = false → withD l d = accR l d ++ [d]) := by
 rw [withD_new h hk]
 refine ⟨fun g => ?_, fun g => ?_⟩
 ·unfold accR; rw [g, if_pos rfl]
 ·have := putGD_lo (f := newD) (q := []) (anyGe_f.1 g)
  rw [List.append_nil] at this
  unfold accR; rw [g, if_neg (by decide), this]; rfl
theorem take_snoc {l : List Dn} {i : Nat} {c : Dn} (h : l[i]? = some c) : l.take (i + 1) = l.take i ++ [c] := by
 obtain ⟨hl, rfl⟩ := List.getElem?_eq_some_iff.1 h
 rw [List.take_succ_eq_append_getElem hl]
theorem rise_take {l : List Dn} {i : Nat} {c d : Dn} (hup : upD l) (h : l[i]? = some c) (hg : anyGe (l.take i) d = true) : ¬ c.ses = d.ses := by
 obtain ⟨x, hx, hle⟩ := anyGe_t.1 hg
 obtain ⟨q, hq⟩ := List.mem_iff_getElem?.1 hx
 rw [List.getElem?_take] at hq
 split at hq
 ·rename_i hlt
  have := upD_rises hup q i x c hlt hq h
  omega
 ·cases hq
end Go.Proofs
namespace Go.Proofs
open Go Go.Ev
variable {H : Heap}
theorem stands_an {H : Heap} {l : List Dn} (ha : allOk H l) (s id : Int) : (stands l s id).1.ok H := by
 unfold stands
 cases h : findD l s with
 | none => exact zeroA_ok
 | some d =>
  dsimp only
  split
  ·exact zeroA_ok
  ·split
   ·exact ha d (findD_mem h).1
   ·exact zeroA_ok
def freshD (a : List Dn) (c : Dn) : Prop := ∀ x, findD a c.ses = some x → x.id < c.id
noncomputable instance (a : List Dn) (c : Dn) : Decidable (freshD a c) := Classical.propDecidable _
end Go.Proofs
namespace Go.Proofs
open Go Go.Ev
variable {H : Heap}
def sameSh (a b : Sh) : Prop := a.id = b.id ∧ a.ep = b.ep ∧ a.fr = b.fr ∧ a.to = b.to ∧ a.frz = b.frz ∧ a.cells = b.cells ∧ a.evs = b.evs ∧ a.done = b.done
end Go.Proofs
namespace Go.Proofs
open Go Go.Ev
variable {H : Heap}
theorem appQ_out {L : List Blk} {i j n esz bytes : Nat} {xs : List (List AV)} {y : List AV} {wr ex : Bool} {cap : Nat} (hi : L[i]? = some (outB esz xs)) (hn : xs.length = n) (hj : L[j]? = some (.row wr esz [y])) (hb : okBig (n + 1) bytes = true) :
  appQ esz bytes (some (outV (H.key i) esz n)) (some (.slice (H.key j) 0 1 esz ex cap)) (H.ext L) = .val (outV (H.key L.length) esz (n + 1)) (H.ext (L.set i .dead ++ [outB esz (xs ++ [y])])) := by
 show appR esz bytes (.c _) (.c _) .lf (H.ext L) = _
 exact appR_out rfl rfl hi hn hj hb
end Go.Proofs
namespace Go.Proofs
open Go Go.Ev
variable {H : Heap}
theorem runR_le {c e : Evn} {d : Cell} : ∀ {l : List Evn} {v w : Int}, runR d l v = some w → e ∈ l → e.key = d.key → e.ver ≤ w
 | [], _, _, _, h, _ => absurd h List.not_mem_nil
 | x :: l, v, w, h, he, hk => by
  rw [runR] at h
  rcases List.mem_cons.1 he with rfl | he
  ·rw [if_pos hk] at h
   split at h
   ·rename_i h2; have := runR_ge h; omega
   ·cases h
  ·split at h
   ·split at h
    ·exact runR_le (c := c) h he hk
    ·cases h
   ·exact runR_le (c := c) h he hk
theorem hist_ver {l : List Evn} {cs : List Cell} (h : isHist l cs) {e : Evn} {c : Cell} (he : e ∈ l) (hc : c ∈ cs) (hk : c.key = e.key) : e.ver ≤ c.ver := runR_le (c := e) (ofH_iff.1 (h.2.2 c hc)) he hk.symm
theorem flo_key (e : Evn) (c : Cell) : (flo e c).key = c.key := by unfold flo; split <;> rfl
theorem flo_ver (e : Evn) (c : Cell) : (flo e c).ver = c.ver := by unfold flo; split <;> rfl
theorem flo_is {e : Evn} {c : Cell} (h : cellIs c) (hv : c.key = e.key → e.ver ≤ c.ver) : cellIs (flo e c) := by
 unfold flo
 split
 ·rename_i hk
  have := hv hk
  exact ⟨h.1, by show (0 : Int) ≤ max c.floor e.ver; have := h.2.1; omega, by show max c.floor e.ver ≤ c.ver; have := h.2.2; omega⟩
 ·exact h
theorem getL_mem {k : List Nat} {c : Cell} : ∀ {l : List Cell}, getL l k = (c, true) → c ∈ l ∧ c.key = k
 | [], h => by cases h
 | d :: l, h => by
  unfold getL at h
  split at h
  ·rename_i hk; cases h; exact ⟨by simp, hk⟩
  ·exact ⟨by simp [(getL_mem h).1], (getL_mem h).2⟩
theorem withL_flo {e : Evn} {c : Cell} : ∀ {l : List Cell}, Ord l → getL l e.key = (c, true) → withL l (flo e c) = l.map (flo e)
 | [], _, h => by cases h
 | d :: l, ho, h => by
  obtain ⟨h1, h2⟩ := List.pairwise_cons.1 ho
  unfold getL at h
  split at h
  ·rename_i hk
   cases h
   have hid : l.map (flo e) = l := by
    conv => rhs; rw [← List.map_id l]
    refine List.map_congr_left fun x hx => flo_no fun hk2 => ?_
    have := h1 x hx
    rw [hk, hk2] at this
    exact ltS_irrefl _ this
   unfold withL
   rw [flo_key, if_neg (ltS_irrefl _), if_pos rfl, List.map_cons, hid]
  ·rename_i hk
   obtain ⟨hm, hck⟩ := getL_mem h
   unfold withL
   rw [flo_key, if_pos (h1 c hm), List.map_cons, flo_no hk, withL_flo h2 h]
structure Kept (cs0 cs : List Cell) : Prop where
 idx : isIdx cs
 src : ∀ c ∈ cs, ∃ c0 ∈ cs0, c.key = c0.key ∧ c.ver = c0.ver
 len : cs.length = cs0.length
 has : ∀ k, (getL cs0 k).2 = true → (getL cs k).2 = true
theorem Kept.refl {cs : List Cell} (h : isIdx cs) : Kept cs cs := ⟨h, fun c hc => ⟨c, hc, rfl, rfl⟩, rfl, fun _ h => h⟩
theorem Kept.step {l : List Evn} {cs0 cs : List Cell} (hI : isHist l cs0) (h : Kept cs0 cs) {e : Evn} (he : e ∈ l) : Kept cs0 (cs.map (flo e)) ∧ ∃ c, getL cs e.key = (c, true) ∧ cellIs (flo e c) ∧ refW cs (flo e c) = cs.map (flo e) := by
 have hv : ∀ c ∈ cs, cellIs (flo e c) := fun c hc => flo_is (isIdx_all h.idx c hc) fun hk => by
  obtain ⟨c0, hc0, h1, h2⟩ := h.src c hc
  rw [h2]
  exact hist_ver hI he hc0 (h1.symm.trans hk)
 have hx : isIdx (cs.map (flo e)) := isIdx_of (fun c hc => by
  obtain ⟨d, hd, rfl⟩ := List.mem_map.1 hc
  exact hv d hd) (List.pairwise_map.2 ((isIdx_pair h.idx).imp fun {a b} hab => by rw [flo_key, flo_key]; exact hab))
 refine ⟨⟨hx, fun c hc => ?_, by rw [List.length_map]; exact h.len, fun k hk => ?_⟩, ?_⟩
 ·obtain ⟨d, hd, rfl⟩ := List.mem_map.1 hc
  obtain ⟨c0, h1, h2, h3⟩ := h.src d hd
  exact ⟨c0, h1, by rw [flo_key]; exact h2, by rw [flo_ver]; exact h3⟩
 ·obtain ⟨c, hc, hck⟩ := getL_true.1 (h.has k hk)
  exact getL_true.2 ⟨flo e c, List.mem_map.2 ⟨c, hc, rfl⟩, by rw [flo_key]; exact hck⟩
 ·have h2 := h.has e.key (hI.2.1 e he).1
  obtain ⟨c, hc⟩ : ∃ c, getL cs e.key = (c, true) := ⟨(getL cs e.key).1, by rw [← h2]⟩
  exact ⟨c, hc, hv c (getL_mem hc).1, by rw [refW_eq h.idx, withL_flo (isIdx_pair h.idx) hc]⟩
theorem Kept.take {l : List Evn} {cs : List Cell} (hI : isHist l cs) : ∀ i, Kept cs (keepC (l.take i) cs)
 | 0 => Kept.refl hI.1
 | i + 1 => by
  by_cases hi : i < l.length
  ·rw [keepC_succ (List.getElem?_eq_getElem hi)]
   exact ((Kept.take hI i).step hI (List.getElem_mem hi)).1
  ·rw [List.take_of_length_le (by omega)]
   have := Kept.take hI i
   rwa [List.take_of_length_le (by omega)] at this
def seV (c : Bool) (u : AV) (k : K) (e n : Nat) : AV := match c with | true => outV k e n | false => u
def seB (c : Bool) (e : Nat) (xs : List (List AV)) : Blk := match c with | true => outB e xs | false => .dead
theorem seV_ren {ρ : K → K} {u : AV} (hu : u.ren ρ = u) (c : Bool) (k : K) (e n : Nat) : AV.ren ρ (seV c u k e n) = seV c u (ρ k) e n := by
 cases c
 ·exact hu
 ·exact outV_ren' ..
theorem seB_ren {ρ : K → K} {e : Nat} {xs : List (List AV)} (h : xs.map (AV.rens ρ) = xs) (c : Bool) : Blk.ren ρ (seB c e xs) = seB c e xs := by
 cases c
 ·rfl
 ·exact outB_ren' _ h
theorem seArr {c : Bool} {u : AV} {L : List Blk} {i n e : Nat} {xs : List (List AV)} (h : L[i]? = some (seB c e xs)) (hn : xs.length = n) (hu : c = false → Arr H e u xs) : Arr (H.ext L) e (seV c u (H.key i) e n) xs := by
 cases c
 ·exact (hu rfl).ext _
 ·exact arr_outV h hn
theorem appR_hide2 (esz bytes : Nat) (a : AV) (b : K) (T : Tr AV) (H : Heap) : appR esz bytes (.c a) (.t b) T H = appQ esz bytes (some a) (T.get b) H := by
 unfold appR appQ
 simp only [withX_t, withX_c]
 cases T.get b <;> rfl
theorem appQ_nil {G : Heap} {e bytes : Nat} {w : AV} {ys : List (List AV)} (hpos : 0 < e) (hw : Arr G e w ys) (hy : ys ≠ []) (hb : okBig ys.length bytes = true) :
  appQ e bytes (some .nils) (some w) G = .val (outV (G.key 0) e ys.length) (G.ext [outB e ys]) := by
 have hl : 0 < ys.length := List.length_pos_iff.2 hy
 rcases hw with ⟨rfl, rfl⟩ | ⟨k, off, ex, cap, rfl, hk, h⟩
 ·exact absurd rfl hy
 ·obtain ⟨r, wr, rows', rfl, hg, hrow⟩ := h hy
  have e1 : r * e % e = 0 := Nat.mul_mod_left r e
  have e2 : r * e / e = r := Nat.mul_div_cancel r hpos
  have hlen := congrArg List.length hrow
  rw [List.length_take, List.length_drop] at hlen
  have e3 : ys.length ≤ (rows'.drop r).length := by rw [List.length_drop]; omega
  have e4 : ¬ ys.length = 0 := by omega
  have hb1 : (2 * ys.length + 192) * bytes ≤ 281474976710656 := by unfold okBig at hb; rwa [Nat.ble_eq] at hb
  show appR e bytes (.c .nils) (.c (.slice k (r * e) ys.length e ex cap)) .lf G = _
  simp only [go_sem, hg, e1, e2, e3, e4, hrow]
  rw [if_pos hb1, outV_pos hl, outB_pos hl]
  have hG := Heap.addC_ext G [] (.row true e ys) (fun k G => R1.val (AV.slice k 0 ys.length e false ys.length) G)
  rw [Heap.ext_nil] at hG
  exact hG
theorem Arr.drop_at {G : Heap} {k : K} {n e cap cap' i : Nat} {ex ex' : Bool} {xs : List (List AV)} (hpos : 0 < e) (h : Arr G e (.slice k 0 n e ex cap) xs) : Arr G e (.slice k (i * e) (n - i) e ex' cap') (xs.drop i) := by
 rcases h with ⟨h, _⟩ | ⟨k', off, ex2, cap2, h, hk, h2⟩
 ·cases h
 ·cases h
  refine .inr ⟨k, i * e, ex', cap', by rw [List.length_drop], hk, fun hx => ?_⟩
  have hxs : xs ≠ [] := by rintro rfl; simp at hx
  obtain ⟨r, wr, rows, h3, h4, h5⟩ := h2 hxs
  have hr : r = 0 := by
   rcases Nat.eq_zero_or_pos r with hr | hr
   ·exact hr
   ·have := Nat.mul_pos hr hpos; omega
  subst hr
  rw [List.drop_zero] at h5
  refine ⟨i, wr, rows, rfl, h4, ?_⟩
  have h6 := congrArg (List.drop i) h5
  rw [List.drop_take] at h6
  rw [List.length_drop]
  exact h6
end Go.Proofs
namespace Go.Ev
variable {P : Program}
section
variable {N : Nat} {H0 H : Heap} {T : Tr AV} {Q : Ex → Tr AV → Heap → Prop}
theorem At2.sub {φ0 : Phi} {w0 u : World} {a : Act} {ts : List (K × AV)} (hts : ∀ p ∈ ts, T.get p.1 = some p.2) (h : At2 P φ0 H0 w0 N T H a u) : At2 P φ0 H0 w0 N (trOf ts) H a u := by
 obtain ⟨hd, ψ, ht, hw, he⟩ := h
 exact ⟨hd, ψ, ⟨ht.size, fun t v hv => ht.get t v (hts _ (get_trOf ts _ v hv))⟩, hw, he⟩
theorem Tri.sub {c : Code} {ts : List (K × AV)} (hts : ∀ p ∈ ts, T.get p.1 = some p.2) (h : Tri P N H0 c (trOf ts) H Q) : Tri P N H0 c T H Q :=
 fun φ0 w0 a u h0 ha => h φ0 w0 a u h0 (ha.sub hts)
theorem TriC.sub {c : CC} {ts : List (K × AV)} (hts : ∀ p ∈ ts, T.get p.1 = some p.2) (h : TriC P N H0 c (trOf ts) H Q) : TriC P N H0 c T H Q := fun code hc => (h code hc).sub hts
end
section
variable {E : FuncId → List AV → Heap → RC} {N : Nat} {H0 : Heap} {k : List It} {Q : Ex → Tr AV → Heap → Prop} {T : Tr AV} {G : Heap}
theorem WW.nil (h : WW P E N H0 k T (G.ext []) Q) : WW P E N H0 k T G Q := by rw [Heap.ext_nil] at h; exact h
def NextH {S : Type} (μ : S → Nat) (inv : S → Heap → Prop) (ts : S → List (K × AV)) (s : S) (T : Tr AV) (G : Heap) : Prop :=
 ∃ s', μ s' < μ s ∧ inv s' G ∧ ∀ p ∈ ts s', T.get p.1 = some p.2
theorem LL.sth {x : CC} (hE : Good P E) {S : Type} (μ : S → Nat) (inv : S → Heap → Prop) (ts : S → List (K × AV))
  (h : ∀ s G, inv s G → WW P E N H0 [.code x] (trOf (ts s)) (G.ext []) (behind (NextH μ inv ts s) (postW P E N H0 k Q))) (s0 : S) (hi : inv s0 G) (ht : ∀ p ∈ ts s0, T.get p.1 = some p.2) : LL P E N H0 x k T G Q := by
 refine TriC.loop (fun m T G => ∃ s, m = μ s ∧ inv s G ∧ ∀ p ∈ ts s, T.get p.1 = some p.2) ?_ (m := μ s0) ⟨s0, rfl, hi, ht⟩
 rintro m T G ⟨s, rfl, hs, hts⟩
 refine TriC.sub hts ?_
 refine (wpc_ok hE x _ _ _ (WW.nil (h s G hs))).mono ?_
 intro e T' G' q
 cases e with
 | norm => obtain ⟨s', h1, h2, h3⟩ := q; exact ⟨μ s', h1, s', rfl, h2, h3⟩
 | exit n => exact q
 | ret => exact q
end
@[go_sem] def Slots (T : Tr AV) : List (K × AV) → Prop
 | [] => True
 | p :: ts => T.get p.1 = some p.2 ∧ Slots T ts
theorem Slots.all {T : Tr AV} : ∀ {ts : List (K × AV)}, Slots T ts → ∀ p ∈ ts, T.get p.1 = some p.2
 | [], _, p, h => by cases h
 | q :: ts, h, p, hp => by
  rcases List.mem_cons.1 hp with rfl | hp
  ·exact h.1
  ·exact Slots.all h.2 p hp
namespace Heap
attribute [go_sem] key_set nx_set'
@[go_sem] theorem get_key_of {B G : Heap} {l : List Blk} {i : Nat} (h : B.nx = G.nx) (hi : i < l.length) : (B.ext l).get (G.key i) = l[i]? := by
 have : G.key i = B.key i := by unfold key; rw [h]
 rw [this, get_ext_key _ _ _ hi]
@[go_sem] theorem setC_key_of {α : Type} {B G : Heap} {l : List Blk} {i : Nat} (h : B.nx = G.nx) (hi : i < l.length) (b : Blk) (c : Heap → α) : (B.ext l).setC (G.key i) b c = c (B.ext (l.set i b)) := by
 have : G.key i = B.key i := by unfold key; rw [h]
 rw [this, setC_ext _ _ _ _ _ hi]
@[go_sem] theorem get_key_set {G : Heap} {s : K} {b : Blk} {l : List Blk} {i : Nat} (hi : i < l.length) : ((G.set s b).ext l).get (G.key i) = l[i]? := get_key_of rfl hi
@[go_sem] theorem setC_key_set {α : Type} {G : Heap} {s : K} {b : Blk} {l : List Blk} {i : Nat} (hi : i < l.length) (d : Blk) (c : Heap → α) : ((G.set s b).ext l).setC (G.key i) d c = c ((G.set s b).ext (l.set i d)) := setC_key_of rfl hi d c
theorem ok_set {G : Heap} (h : G.ok) {k : K} {b c : Blk} (hk : G.get k = some c) : (G.set k b).ok := by
 intro j d hj
 rw [get_set] at hj
 split at hj
 ·rename_i e; subst e; exact h k c hk
 ·exact h j d hj
theorem get_set_here {G : Heap} (hok : G.ok) {k : K} {c : Blk} (hk : G.get k = some c) (b : Blk) (l : List Blk) : ((G.set k b).ext l).get k = some b := by
 rw [get_ext_lt (G.set k b) l k (show k.toNat < (G.set k b).nx.toNat from hok k c hk), get_set, if_pos rfl]
theorem get_set_there {G : Heap} (hok : G.ok) {k j : K} {d : Blk} (hj : G.get j = some d) (hne : k ≠ j) (b : Blk) (l : List Blk) : ((G.set k b).ext l).get j = some d := by
 rw [get_ext_lt (G.set k b) l j (show j.toNat < (G.set k b).nx.toNat from hok j d hj), get_set, if_neg hne, hj]
theorem setC_set_here {α : Type} {G : Heap} (hok : G.ok) {k : K} {x : Blk} (hk : G.get k = some x) (b d : Blk) (l : List Blk) (c : Heap → α) : ((G.set k b).ext l).setC k d c = c ((G.set k d).ext l) := by
 rw [setC_old (G.set k b) l k d c (show k.toNat < (G.set k b).nx.toNat from hok k x hk), set_set]
theorem setC_here {α : Type} {G : Heap} (hok : G.ok) {k : K} {x : Blk} (hk : G.get k = some x) (b : Blk) (l : List Blk) (c : Heap → α) : (G.ext l).setC k b c = c ((G.set k b).ext l) := setC_old _ l k b c (hok k x hk)
end Heap
theorem Arr.set {G : Heap} {k : K} {b : Blk} {wr : Bool} {e e' : Nat} {rows : List (List AV)} {v : AV} {xs : List (List AV)} (h : Arr G e v xs) (hk : G.get k = some (.row wr e' rows)) (he : e ≠ e') : Arr (G.set k b) e v xs := by
 rcases h with h | ⟨j, off, ex, cap, rfl, hj, h⟩
 ·exact .inl h
 ·refine .inr ⟨j, off, ex, cap, rfl, hj, fun hx => ?_⟩
  obtain ⟨r, wr', rows', h1, h2, h3⟩ := h hx
  refine ⟨r, wr', rows', h1, ?_, h3⟩
  rw [Heap.get_set, if_neg fun e => ?_]
  ·exact h2
  ·subst e; rw [hk] at h2; cases h2; exact he rfl
end Go.Ev
namespace Go.Proofs
open Go Go.Ev
variable {H : Heap}
section
variable {s t : Sh}
end
theorem set_own {B G : Heap} {j : K} {c b : Blk} (hok : G.ok) (hj : G.get j = some c) (hB : ∃ L, G = B.ext L) (hl : B.nx.toNat ≤ j.toNat) : ∃ L, G.set j b = B.ext L := by
 obtain ⟨L, rfl⟩ := hB
 have h1 := hok j c hj
 rw [Heap.nx_ext, Heap.toNat_key] at h1
 have e : j = B.key (j.toNat - B.nx.toNat) := K.toNat_inj (by rw [Heap.toNat_key]; omega)
 rw [e, Heap.set_ext_key _ _ _ _ (by omega)]
 exact ⟨_, rfl⟩
theorem okBig_mono {n m b : Nat} (h : okBig m b = true) (hn : n ≤ m) : okBig n b = true := by
 unfold okBig at h ⊢
 rw [Nat.ble_eq] at h ⊢
 exact Nat.le_trans (Nat.mul_le_mul (by omega) (Nat.le_refl _)) h
section
variable {G : Heap} {e bytes : Nat} {v w : AV} {xs ys : List (List AV)}
theorem appQ_same {k : K} (hw : Arr G e w []) (n : Nat) : appQ e bytes (some (outV k e n)) (some w) G = .val (outV k e n) G := by
 cases n with
 | zero => exact appQ_none hw
 | succ n =>
  rcases hw with ⟨rfl, _⟩ | ⟨k2, off, ex, cap, rfl, hk, h⟩
  ·rfl
  ·rfl
theorem appQ_two {s : K} (hok : G.ok) (hpos : 0 < e) (hx : xs ≠ []) (hs : G.get s = some (.row true e xs)) (hw : Arr G e w ys) (hy : ys ≠ []) (hb : okBig (xs.length + ys.length) bytes = true) :
  appQ e bytes (some (outV s e xs.length)) (some w) G = .val (outV (G.key 0) e (xs.length + ys.length)) ((G.set s .dead).ext [.row true e (xs ++ ys)]) := by
 have hl : 0 < ys.length := List.length_pos_iff.2 hy
 have hlx : 0 < xs.length := List.length_pos_iff.2 hx
 rcases hw with ⟨rfl, rfl⟩ | ⟨k, off, ex, cap, rfl, hk, h⟩
 ·exact absurd rfl hy
 ·obtain ⟨r, wr, rows', rfl, hg, hrow⟩ := h hy
  have e1 : r * e % e = 0 := Nat.mul_mod_left r e
  have e2 : r * e / e = r := Nat.mul_div_cancel r hpos
  have hlen := congrArg List.length hrow
  rw [List.length_take, List.length_drop] at hlen
  have e3 : ys.length ≤ (rows'.drop r).length := by rw [List.length_drop]; omega
  have e4 : ¬ ys.length = 0 := by omega
  have e5 : ¬ xs.length + ys.length ≤ xs.length := by omega
  have hb1 : (2 * (xs.length + ys.length) + 192) * bytes ≤ 281474976710656 := by unfold okBig at hb; rwa [Nat.ble_eq] at hb
  rw [outV_pos hlx, outV_pos (by omega)]
  show appR e bytes (.c (.slice s 0 xs.length e false xs.length)) (.c (.slice k (r * e) ys.length e ex cap)) .lf G = _
  simp only [go_sem, hg, hs, e1, e2, e3, e4, e5, hrow, Nat.zero_mod, Nat.zero_div, List.take_length]
  rw [if_pos (Nat.le_refl _), if_pos hb1]
  have hG := Heap.setC_here hok hs .dead [] (fun H => H.addC (.row true e (xs ++ ys)) fun k G => R1.val (AV.slice k 0 (xs.length + ys.length) e false (xs.length + ys.length)) G)
  rw [Heap.addC_ext, Heap.ext_nil] at hG
  exact hG
theorem app_open (hok : G.ok) (hpos : 0 < e) (hv : Arr G e v xs) (hw : Arr G e w ys) (hb : okBig (xs.length + ys.length) bytes = true) :
  ∃ v1 G1 v2 G2, appQ e bytes (some .nils) (some v) G = .val v1 (Heap.ext G1 []) ∧ appQ e bytes (some v1) (some w) (Heap.ext G1 []) = .val v2 (Heap.ext G2 []) ∧ Heap.ok G1 ∧ Heap.ok G2 ∧ (∃ L, G1 = G.ext L) ∧ (∃ L, G2 = G.ext L) ∧ ∃ kx, v2 = outV kx e (xs ++ ys).length ∧ Arr G2 e v2 (xs ++ ys) := by
 simp only [Heap.ext_nil]
 by_cases hx : xs = []
 ·subst hx
  have h1 := appQ_none (esz := e) (bytes := bytes) hv
  by_cases hy : ys = []
  ·subst hy
   exact ⟨.nils, G, .nils, G, h1, appQ_none hw, hok, hok, ⟨[], (Heap.ext_nil G).symm⟩, ⟨[], (Heap.ext_nil G).symm⟩, .z, rfl, .inl ⟨rfl, rfl⟩⟩
  ·exact ⟨.nils, G, _, _, h1, appQ_nil hpos hw hy (okBig_mono hb (by omega)), hok, Heap.ok_ext hok _, ⟨[], (Heap.ext_nil G).symm⟩, ⟨_, rfl⟩, G.key 0, rfl, arr_outV (H := G) rfl rfl⟩
 ·have h1 := appQ_nil (bytes := bytes) hpos hv hx (okBig_mono hb (by omega))
  have hok1 := Heap.ok_ext hok [outB e xs]
  by_cases hy : ys = []
  ·subst hy
   refine ⟨_, _, _, _, h1, appQ_same (hw.ext _) _, hok1, hok1, ⟨_, rfl⟩, ⟨_, rfl⟩, G.key 0, by rw [List.append_nil], ?_⟩
   rw [List.append_nil]
   exact arr_outV (H := G) rfl rfl
  ·have hs : (G.ext [outB e xs]).get (G.key 0) = some (.row true e xs) := by
    rw [outB_pos (List.length_pos_iff.2 hx)]; exact get_first [] []
   have h2 := appQ_two hok1 hpos hx hs (hw.ext _) hy hb
   have e3 : ((G.ext [outB e xs]).set (G.key 0) .dead).ext [.row true e (xs ++ ys)] = G.ext [.dead, .row true e (xs ++ ys)] := by
    rw [Heap.set_ext_key _ _ _ _ (Nat.zero_lt_succ _), Heap.ext_append]; rfl
   rw [e3] at h2
   refine ⟨_, _, _, _, h1, h2, hok1, Heap.ok_ext hok _, ⟨_, rfl⟩, ⟨_, rfl⟩, _, by rw [List.length_append], ?_⟩
   rw [Heap.key_ext]
   exact arr_outV (H := G) (i := 1) (by rw [outB_pos (by rw [List.length_append]; have := List.length_pos_iff.2 hx; omega)]; rfl) (List.length_append ..)
end
end Go.Proofs
namespace Go.Proofs
open Go Go.Ev
variable {H : Heap}
def A43 (H : Heap) (args : List AV) (q : AV × List Evn × List Cell) : Prop := ∃ v kx, args = [v, q.1, .int .i64 24] ∧ v = outV kx 4 q.2.1.length ∧ Arr H 4 v (q.2.1.map Evn.enc) ∧ Arr H 5 q.1 (q.2.2.map Cell.enc) ∧ q.2.1.length < 100000 ∧ q.2.2.length < 100000 ∧ isHist q.2.1 q.2.2
theorem one_se {u : AV} (c : Bool) (k : K) (e n : Nat) (hu : AV.one u = true) : AV.one (seV c u k e n) = true := by
 cases c
 ·exact hu
 ·exact one_o ..
theorem agg_se {u : AV} (c : Bool) (k : K) (e n : Nat) (hu : ∀ {β : Type} (f : β) (d : List AV → β), asAggC u f d = f) {β : Type} (f : β) (d : List AV → β) : asAggC (seV c u k e n) f d = f := by
 cases c
 ·exact hu f d
 ·exact agg_o ..
end Go.Proofs
