/- errors.Is, where both are nil or numbers of a kind: by its contract. Written after the kit's worked text SentryIs. -/
import Derived.Test.YtkhaejbkdgbjcaaGreatDoorZ16
import Derived.Test.YtkhaejbkdgbjcaaGreatDoorProg
import Derived.KernelRfl
import Derived.WalkKit
import Derived.LaidEql
import Derived.Lib.IfaceEq
import Derived.Stop.Asserts
import Derived.Stop.IfaceNil
import Derived.RowKitTokens
set_option linter.all false
namespace Go.Proofs
open Go.RowKit Go.Extern.Stop Go.Stop Go.Extern
theorem Tryz.isTypeOf (v : Value) (w : World) : (Extern.ReflectliteType.typeOf #[.iface 118 v]).run Tryz.prog w = .ok (.iface 242 (.agg #[.pointer (some ⟨2, 118, none⟩)])) w := by kernel_rfl
theorem Tryz.isComparable (w : World) : ((Extern.ReflectliteType.method fun t => do Rtype.noPackHeld "Comparable" t; (fun a => Value.bool a.comparable) <$> typeInfo t) #[.agg #[.pointer (some ⟨2, 118, none⟩)]]).run Tryz.prog w = .ok (.bool true) w := by kernel_rfl
theorem Tryz.isMethodComparable (v : Value) (w : World) : (Go.method 489 242 v "Comparable").run Tryz.prog w = .ok (311, v) w := by kernel_rfl
theorem Tryz.isComp : (Tryz.prog.info? 118).map (·.comparable) = some true := by kernel_rfl
theorem Tryz.noIs (v : Value) (xT : TypeId) (w : World) : (Instr.typeAssert (.iface 118 v) xT 244 true).run Tryz.prog w = .ok (.tuple #[.nilIface, .bool false]) w := run_typeAssert_lacksB Tryz.underlying244 (by kernel_rfl) (by kernel_rfl) v xT w
theorem Tryz.noUnwrap (v : Value) (xT : TypeId) (w : World) : (Instr.typeAssert (.iface 118 v) xT 246 true).run Tryz.prog w = .ok (.tuple #[.nilIface, .bool false]) w := run_typeAssert_lacksB Tryz.underlying246 (by kernel_rfl) (by kernel_rfl) v xT w
theorem Tryz.noUnwraps (v : Value) (xT : TypeId) (w : World) : (Instr.typeAssert (.iface 118 v) xT 247 true).run Tryz.prog w = .ok (.tuple #[.nilIface, .bool false]) w := run_typeAssert_lacksB Tryz.underlying247 (by kernel_rfl) (by kernel_rfl) v xT w
/-- errors.Is of two numbers -/
theorem is_num (a b : Int) (w : World) : Calls Tryz.prog 64 #[.iface 118 (.int .i64 a), .iface 118 (.int .i64 b)] w fun e w' => e = .returned (.bool (a == b)) ∧ w' = w := by
  have h61 := @run_callFunc_extern Tryz.prog 127 _ Extern.ReflectliteType.typeOf Tryz.func127 (by kernel_rfl) (by kernel_rfl) (by kernel_rfl) (by kernel_rfl)
  have h144 := @run_callFunc_extern Tryz.prog 311 _ (Extern.ReflectliteType.method fun t => do Rtype.noPackHeld "Comparable" t; pure (.bool (← typeInfo t).comparable)) Tryz.func311 (by kernel_rfl) (by kernel_rfl) (by kernel_rfl) (by kernel_rfl)
  have tT := Tryz.isTypeOf
  have cT := Tryz.isComparable
  have mR := Tryz.isMethodComparable
  have n1 := Tryz.noIs
  have n2 := Tryz.noUnwrap
  have n3 := Tryz.noUnwraps
  have heq := Go.Lib.run_eql_iface_int (P := Tryz.prog) (t := 72) (k := .i64) w a b Tryz.underlying72 Tryz.isComp Tryz.underlying118
  by_cases hab : a = b
  · subst hab
    rw [beq_self_eq_true] at heq ⊢
    go_enter Tryz.func64, Tryz.ntmps64
    go_wp2
    refine wp_loop_rounds 1 ?_
    rw [rounds_succ]
    go_wp2
    go_ret
    exact ⟨rfl, rfl⟩
  · rw [show (a == b) = false from beq_false_of_ne hab] at heq ⊢
    go_enter Tryz.func64, Tryz.ntmps64
    go_wp2
    refine wp_loop_rounds 1 ?_
    rw [rounds_succ]
    go_wp2
    go_ret
    exact ⟨rfl, rfl⟩
theorem is_nil (b : Int) (w : World) : Calls Tryz.prog 64 #[.nilIface, .iface 118 (.int .i64 b)] w fun e w' => e = .returned (.bool false) ∧ w' = w := by
  have hn := run_eql_iface_nil_left (P := Tryz.prog) w 118 (.int .i64 b) Tryz.underlying72
  go_enter Tryz.func64, Tryz.ntmps64
  go_wp2
  go_ret
  exact ⟨rfl, rfl⟩
end Go.Proofs
/- errors.As, where the error is a number of a kind and a number of that kind is asked for: by its contract. Turned by a program from the kit's worked text ToyasAs. -/

set_option linter.all false
namespace Go.Proofs
open Go.RowKit Go.Extern.Stop Go.Stop Go.Extern

/-- errors.As(nil, target). -/
theorem as_nil (t : Value) (w : World) :
    Calls Tryz.prog 105 #[.nilIface, t] w fun e w' => e = .returned (.bool false) ∧ w' = w := by
  go_enter Tryz.func105, Tryz.ntmps105
  go_wp2
  go_ret
  exact ⟨rfl, rfl⟩

/-! ### CLOSED FACTS ON THE MODEL's ENTRIES FOR internal/reflectlite, at this program's types: 25: *p.E · 27: **p.E · 23: error · 45: reflectlite's rtype · 1: how many package-level variables the dump has -/
theorem Tryz.as_valueOf27 (t : Addr) (w : World) : (ReflectliteValue.unpack (.iface 165 (.pointer (some t)))).run Tryz.prog w
    = .ok (.agg #[.pointer (some ⟨2, 165, none⟩), .pointer (some ⟨w.heap.size, 0, none⟩), .int .u64 150]) (w.alloc (.cells #[.pointer (some t)] 165)) := by kernel_rfl
theorem Tryz.as_type27 (a : Addr) (w : World) : (ReflectliteValue.methodAny (ReflectliteValue.valueError "reflectlite.Value.Type" 0) (fun t _ _ _ => ReflectliteType.toType t) #[.agg #[.pointer (some ⟨2, 165, none⟩), .pointer (some a), .int .u64 150]]).run Tryz.prog w
    = .ok (.iface 242 (.agg #[.pointer (some ⟨2, 165, none⟩)])) w := by kernel_rfl
theorem Tryz.as_methodKind (h : Value) (w : World) : (Go.method 489 242 (.agg #[h]) "Kind").run Tryz.prog w = .ok (300, h) w := by kernel_rfl
theorem Tryz.as_kind27 (w : World) : ((ReflectliteType.abiMethod fun t => (fun a : Nat => Value.int IntKind.u8 (a : Int)) <$> Rtype.kind t) #[.pointer (some ⟨2, 165, none⟩)]).run Tryz.prog w = .ok (.int .u8 22) w := by kernel_rfl
theorem Tryz.as_kind25 (w : World) : ((ReflectliteType.abiMethod fun t => (fun a : Nat => Value.int IntKind.u8 (a : Int)) <$> Rtype.kind t) #[.pointer (some ⟨2, 118, none⟩)]).run Tryz.prog w = .ok (.int .u8 2) w := by kernel_rfl

/-! ### THE ENTRIES THAT READ OR WRITE MEMORY: laws with a premise on the cell (after Derived/Lib/ReflectliteSlice.lean's manner: each unfolding a lemma of its own, by rfl) -/
theorem rlm (z : Sem Value) (f : TypeId → Addr → Nat → Nat → Sem Value) (v : Value) :
    ReflectliteValue.method z f #[v] = (do match ← ReflectliteValue.parts v with | none => z | some (t, a, fl) => f t a fl (fl % 32)) := rfl
theorem Tryz.as_parts27 (a : Addr) (w : World) : (ReflectliteValue.parts (.agg #[.pointer (some ⟨2, 165, none⟩), .pointer (some a), .int .u64 150])).run Tryz.prog w = .ok (some (165, a, 150)) w := by kernel_rfl
/-- (Value).IsNil at the Value of a **p.E that is not nil. -/
theorem Tryz.as_isNil27 (a p : Addr) (W : World) (ha : W.cell? a = some (.pointer (some p))) :
    (ReflectliteValue.method (ReflectliteValue.valueError "reflectlite.Value.IsNil" 0) ReflectliteValue.isNil #[.agg #[.pointer (some ⟨2, 165, none⟩), .pointer (some a), .int .u64 150]]).run Tryz.prog W = .ok (.bool false) W := by
  rw [rlm]
  simp only [Sem.run_bind, Tryz.as_parts27, Result.andThen]
  simp [ReflectliteValue.isNil, loadVar, isAgg, underlying, Tryz.underlying165, ha, Result.andThen]

theorem Tryz.as_methodElem (h : Value) (w : World) : (Go.method 489 242 (.agg #[h]) "Elem").run Tryz.prog w = .ok (312, .agg #[h]) w := by kernel_rfl
theorem Tryz.as_methodImplements (h : Value) (w : World) : (Go.method 489 242 (.agg #[h]) "Implements").run Tryz.prog w = .ok (313, .agg #[h]) w := by kernel_rfl
theorem Tryz.as_methodAssignableTo (h : Value) (w : World) : (Go.method 489 242 (.agg #[h]) "AssignableTo").run Tryz.prog w = .ok (310, .agg #[h]) w := by kernel_rfl
theorem Tryz.as_elem27 (w : World) : (ReflectliteType.method ReflectliteType.elem #[.agg #[.pointer (some ⟨2, 165, none⟩)]]).run Tryz.prog w = .ok (.iface 242 (.agg #[.pointer (some ⟨2, 118, none⟩)])) w := by kernel_rfl
theorem Tryz.as_implements25 (w : World) : (ReflectliteType.relation "Implements" ReflectliteType.implements_ #[.agg #[.pointer (some ⟨2, 118, none⟩)], .iface 242 (.agg #[.pointer (some ⟨2, 72, none⟩)])]).run Tryz.prog w = .ok (.bool true) w := by kernel_rfl
theorem Tryz.as_typeOf25 (v : Value) (w : World) : (ReflectliteType.typeOf #[.iface 118 v]).run Tryz.prog w = .ok (.iface 242 (.agg #[.pointer (some ⟨2, 118, none⟩)])) w := by kernel_rfl
theorem Tryz.as_assignable25 (w : World) : (ReflectliteType.relation "AssignableTo" ReflectliteType.assignableTo #[.agg #[.pointer (some ⟨2, 118, none⟩)], .iface 242 (.agg #[.pointer (some ⟨2, 118, none⟩)])]).run Tryz.prog w = .ok (.bool true) w := by kernel_rfl
theorem Tryz.as_valueOf25 (e : Int) (w : World) : (ReflectliteValue.unpack (.iface 118 (.int .i64 e))).run Tryz.prog w
    = .ok (.agg #[.pointer (some ⟨2, 118, none⟩), .pointer (some ⟨w.heap.size, 0, none⟩), .int .u64 130]) (w.alloc (.cells #[.int .i64 e] 118)) := by kernel_rfl

theorem Tryz.as_elemOf27 (w : World) : (Rtype.elem? 165).run Tryz.prog w = .ok (some 118) w := by kernel_rfl
theorem Tryz.as_mk25 (p : Addr) (w : World) : (ReflectliteValue.mk 118 p ReflectliteValue.flagAddr).run Tryz.prog w = .ok (.agg #[.pointer (some ⟨2, 118, none⟩), .pointer (some p), .int .u64 386]) w := by kernel_rfl
/-- (Value).Elem at the Value of a **p.E that is not nil: the Value of the *p.E variable that it points to, addressable. -/
theorem Tryz.as_elemV27 (a p : Addr) (W : World) (ha : W.cell? a = some (.pointer (some p))) :
    (ReflectliteValue.method (ReflectliteValue.valueError "reflectlite.Value.Elem" 0) ReflectliteValue.elem #[.agg #[.pointer (some ⟨2, 165, none⟩), .pointer (some a), .int .u64 150]]).run Tryz.prog W
      = .ok (.agg #[.pointer (some ⟨2, 118, none⟩), .pointer (some p), .int .u64 386]) W := by
  rw [rlm]
  simp only [Sem.run_bind, Tryz.as_parts27, Result.andThen]
  simp [ReflectliteValue.elem, loadVar, isAgg, underlying, Tryz.underlying165, ha, Result.andThen, Tryz.as_elemOf27, Tryz.as_mk25]
theorem rls (v x : Value) : ReflectliteValue.set #[v, x] = (do
    let (some (dst, a, fl), some (src, b, _)) := (← ReflectliteValue.parts v, ← ReflectliteValue.parts x)
      | unsupported (.noEntry "extern/(internal/reflectlite.Value).Set.zeroValue")
    if fl / ReflectliteValue.flagAddr % 2 == 0 then unsupported (.noEntry "extern/(internal/reflectlite.Value).Set.unaddressable")
    let val ← loadVar src b
    if ← Rtype.directlyAssignable dst src then storeVar dst a val
    else if ← Rtype.implements dst src then
      if (← Rtype.kind src) == 20 then
        match val with
        | .nilIface => unsupported (.noEntry "extern/reflectlite: a nil value of one interface type handed on as a value of another")
        | _ => storeVar dst a val
      else storeVar dst a (.iface src val)
    else panicString ("reflectlite.Set: value of type " ++ (← Rtype.spelt src) ++ " is not assignable to type " ++ (← Rtype.spelt dst))
    pure (.tuple #[])) := rfl
theorem Tryz.as_parts25a (a : Addr) (w : World) : (ReflectliteValue.parts (.agg #[.pointer (some ⟨2, 118, none⟩), .pointer (some a), .int .u64 386])).run Tryz.prog w = .ok (some (118, a, 386)) w := by kernel_rfl
theorem Tryz.as_parts25 (a : Addr) (w : World) : (ReflectliteValue.parts (.agg #[.pointer (some ⟨2, 118, none⟩), .pointer (some a), .int .u64 130])).run Tryz.prog w = .ok (some (118, a, 130)) w := by kernel_rfl
theorem Tryz.as_direct25 (w : World) : (Rtype.directlyAssignable 118 118).run Tryz.prog w = .ok true w := by kernel_rfl
/-- (Value).Set: the *p.E variable at 'ta' gets what the Value's own variable 'b' holds. -/
theorem Tryz.as_set25 (ta b : Addr) (e : Int) (old : Value) (W : World) (hb : W.cell? b = some (.int .i64 e)) (ht : W.cell? ta = some old) (hf : W.frozen? ta = false) :
    (ReflectliteValue.set #[.agg #[.pointer (some ⟨2, 118, none⟩), .pointer (some ta), .int .u64 386], .agg #[.pointer (some ⟨2, 118, none⟩), .pointer (some b), .int .u64 130]]).run Tryz.prog W
      = .ok (.tuple #[]) (W.setCell ta (.int .i64 e)) := by
  rw [rls]
  simp only [Sem.run_bind, Tryz.as_parts25a, Tryz.as_parts25, Result.andThen]
  simp [ReflectliteValue.flagAddr, loadVar, isAgg, underlying, Tryz.underlying118, hb, Result.andThen, Tryz.as_direct25, storeVar, Value.cells, storeCells, Addr.add]
  rw [run_store Tryz.prog W ta _ _ (by rfl)]
  simp [ht, hf]

set_option maxHeartbeats 4000000 in
theorem as_hit (e : Int) (t : Addr) (old : Value) (w : World) (hg : w.cell? ⟨0, 0, none⟩ = some (.iface 242 (.agg #[.pointer (some ⟨2, 72, none⟩)]))) (ht0 : w.cell? t = some old) (hf0 : w.frozen? t = false) :
    Calls Tryz.prog 105 #[.iface 118 (.int .i64 e), .iface 165 (.pointer (some t))] w fun ev w' => ev = .returned (.bool true) ∧ w' = ((((w.alloc (.cells #[.pointer (some t)] 165)).alloc (.cells #[.pointer (some ⟨2, 165, none⟩), .pointer (some ⟨w.heap.size, 0, none⟩), .int .u64 150] 225)).alloc (.cells #[.pointer (some ⟨2, 165, none⟩), .pointer (some ⟨w.heap.size, 0, none⟩), .int .u64 150] 225)).alloc (.cells #[.int .i64 e] 118)).setCell t (.int .i64 e) := by
  have h6 := @run_callFunc_extern Tryz.prog 161 _ (fun args => ReflectliteValue.unpack (args.getD 0 (.tuple #[]))) Tryz.func161 (by kernel_rfl) (by kernel_rfl) (by kernel_rfl) (by kernel_rfl)
  have h7 := @run_callFunc_extern Tryz.prog 162 _ (ReflectliteValue.methodAny (ReflectliteValue.valueError "reflectlite.Value.Type" 0) (fun t _ _ _ => ReflectliteType.toType t)) Tryz.func162 (by kernel_rfl) (by kernel_rfl) (by kernel_rfl) (by kernel_rfl)
  have h8 := @run_callFunc_extern Tryz.prog 163 _ (ReflectliteValue.method (ReflectliteValue.valueError "reflectlite.Value.IsNil" 0) ReflectliteValue.isNil) Tryz.func163 (by kernel_rfl) (by kernel_rfl) (by kernel_rfl) (by kernel_rfl)
  have h27 := @run_callFunc_extern Tryz.prog 300 _ (ReflectliteType.abiMethod fun t => do pure (.int .u8 (← Rtype.kind t))) Tryz.func300 (by kernel_rfl) (by kernel_rfl) (by kernel_rfl) (by kernel_rfl)
  have h37 := @run_callFunc_extern Tryz.prog 312 _ (ReflectliteType.method ReflectliteType.elem) Tryz.func312 (by kernel_rfl) (by kernel_rfl) (by kernel_rfl) (by kernel_rfl)
  have h38 := @run_callFunc_extern Tryz.prog 313 _ (ReflectliteType.relation "Implements" ReflectliteType.implements_) Tryz.func313 (by kernel_rfl) (by kernel_rfl) (by kernel_rfl) (by kernel_rfl)
  have h10 := @run_callFunc_extern Tryz.prog 127 _ ReflectliteType.typeOf Tryz.func127 (by kernel_rfl) (by kernel_rfl) (by kernel_rfl) (by kernel_rfl)
  have h35 := @run_callFunc_extern Tryz.prog 310 _ (ReflectliteType.relation "AssignableTo" ReflectliteType.assignableTo) Tryz.func310 (by kernel_rfl) (by kernel_rfl) (by kernel_rfl) (by kernel_rfl)
  have h11 := @run_callFunc_extern Tryz.prog 209 _ (ReflectliteValue.method (ReflectliteValue.valueError "reflectlite.Value.Elem" 0) ReflectliteValue.elem) Tryz.func209 (by kernel_rfl) (by kernel_rfl) (by kernel_rfl) (by kernel_rfl)
  have h12 := @run_callFunc_extern Tryz.prog 210 _ ReflectliteValue.set Tryz.func210 (by kernel_rfl) (by kernel_rfl) (by kernel_rfl) (by kernel_rfl)
  have tO := Tryz.as_typeOf25
  have mA := Tryz.as_methodAssignableTo
  have a25 := Tryz.as_assignable25
  have v25 := Tryz.as_valueOf25
  have f6 := Tryz.as_valueOf27
  have f7 := Tryz.as_type27
  have mK := Tryz.as_methodKind
  have mE := Tryz.as_methodElem
  have mI := Tryz.as_methodImplements
  have k27 := Tryz.as_kind27
  have k25 := Tryz.as_kind25
  have e27 := Tryz.as_elem27
  have i25 := Tryz.as_implements25
  have n8 := Tryz.as_isNil27 ⟨w.heap.size, 0, none⟩ t ((w.alloc (.cells #[.pointer (some t)] 165)).alloc (.cells #[.pointer (some ⟨2, 165, none⟩), .pointer (some ⟨w.heap.size, 0, none⟩), .int .u64 150] 225)) (by simp)
  have hlt : 0 < w.heap.size := by
    rcases Nat.eq_zero_or_pos w.heap.size with h0 | h
    · simp [World.cell?, h0] at hg
    · exact h
  have hg2 : ((w.alloc (.cells #[.pointer (some t)] 165)).alloc (.cells #[.pointer (some ⟨2, 165, none⟩), .pointer (some ⟨w.heap.size, 0, none⟩), .int .u64 150] 225)).cell? ⟨0, 0, none⟩ = some (.iface 242 (.agg #[.pointer (some ⟨2, 72, none⟩)])) := by
    rw [World.cell?_alloc_lt _ _ ⟨0, 0, none⟩ (by simp), World.cell?_alloc_lt _ _ ⟨0, 0, none⟩ hlt]; exact hg
  have htl : t.block < w.heap.size := by
    rcases Nat.lt_or_ge t.block w.heap.size with h | h
    · exact h
    · simp [World.cell?, Array.getElem?_eq_none h] at ht0
  have el := Tryz.as_elemV27 ⟨w.heap.size, 0, none⟩ t (((w.alloc (.cells #[.pointer (some t)] 165)).alloc (.cells #[.pointer (some ⟨2, 165, none⟩), .pointer (some ⟨w.heap.size, 0, none⟩), .int .u64 150] 225)).alloc (.cells #[.pointer (some ⟨2, 165, none⟩), .pointer (some ⟨w.heap.size, 0, none⟩), .int .u64 150] 225)) (by rw [World.cell?_alloc_lt _ _ ⟨w.heap.size, 0, none⟩ (by simp; omega)]; simp)
  have st := Tryz.as_set25 t ⟨w.heap.size + 1 + 1 + 1, 0, none⟩ e old ((((w.alloc (.cells #[.pointer (some t)] 165)).alloc (.cells #[.pointer (some ⟨2, 165, none⟩), .pointer (some ⟨w.heap.size, 0, none⟩), .int .u64 150] 225)).alloc (.cells #[.pointer (some ⟨2, 165, none⟩), .pointer (some ⟨w.heap.size, 0, none⟩), .int .u64 150] 225)).alloc (.cells #[.int .i64 e] 118))
    (by rw [World.cell?_alloc_at _ _ _ _ (by simp)]; rfl)
    (by rw [World.cell?_alloc_lt _ _ t (by simp; omega), World.cell?_alloc_lt _ _ t (by simp; omega), World.cell?_alloc_lt _ _ t (by simp; omega), World.cell?_alloc_lt _ _ t htl]; exact ht0)
    (by rw [World.frozen?_alloc_old _ _ t (by simp; omega), World.frozen?_alloc_old _ _ t (by simp; omega), World.frozen?_alloc_old _ _ t (by simp; omega), World.frozen?_alloc_old _ _ t (Nat.ne_of_lt htl)]; exact hf0)
  go_enter Tryz.func105, Tryz.ntmps105
  go_wp2
  refine wp_loop_rounds 1 ?_
  rw [rounds_succ]
  go_wp2
  go_ret
  exact ⟨rfl, rfl⟩
end Go.Proofs
/- errors.As, where the error is a number and another type is asked for: by its contract. -/

set_option linter.all false
namespace Go.Proofs
open Go.RowKit Go.Extern.Stop Go.Stop Go.Extern
theorem Tryz.as_valueOfB (t : Addr) (w : World) : (ReflectliteValue.unpack (.iface 206 (.pointer (some t)))).run Tryz.prog w
    = .ok (.agg #[.pointer (some ⟨2, 206, none⟩), .pointer (some ⟨w.heap.size, 0, none⟩), .int .u64 150]) (w.alloc (.cells #[.pointer (some t)] 206)) := by kernel_rfl
theorem Tryz.as_typeB (a : Addr) (w : World) : (ReflectliteValue.methodAny (ReflectliteValue.valueError "reflectlite.Value.Type" 0) (fun t _ _ _ => ReflectliteType.toType t) #[.agg #[.pointer (some ⟨2, 206, none⟩), .pointer (some a), .int .u64 150]]).run Tryz.prog w
    = .ok (.iface 242 (.agg #[.pointer (some ⟨2, 206, none⟩)])) w := by kernel_rfl
theorem Tryz.as_kindB (w : World) : ((ReflectliteType.abiMethod fun t => (fun a : Nat => Value.int IntKind.u8 (a : Int)) <$> Rtype.kind t) #[.pointer (some ⟨2, 206, none⟩)]).run Tryz.prog w = .ok (.int .u8 22) w := by kernel_rfl
theorem Tryz.as_kindS (w : World) : ((ReflectliteType.abiMethod fun t => (fun a : Nat => Value.int IntKind.u8 (a : Int)) <$> Rtype.kind t) #[.pointer (some ⟨2, 122, none⟩)]).run Tryz.prog w = .ok (.int .u8 25) w := by kernel_rfl
theorem Tryz.as_partsB (a : Addr) (w : World) : (ReflectliteValue.parts (.agg #[.pointer (some ⟨2, 206, none⟩), .pointer (some a), .int .u64 150])).run Tryz.prog w = .ok (some (206, a, 150)) w := by kernel_rfl
theorem Tryz.as_isNilB (a p : Addr) (W : World) (ha : W.cell? a = some (.pointer (some p))) :
    (ReflectliteValue.method (ReflectliteValue.valueError "reflectlite.Value.IsNil" 0) ReflectliteValue.isNil #[.agg #[.pointer (some ⟨2, 206, none⟩), .pointer (some a), .int .u64 150]]).run Tryz.prog W = .ok (.bool false) W := by
  rw [rlm]
  simp only [Sem.run_bind, Tryz.as_partsB, Result.andThen]
  simp [ReflectliteValue.isNil, loadVar, isAgg, underlying, Tryz.underlying206, ha, Result.andThen]
theorem Tryz.as_elemB (w : World) : (ReflectliteType.method ReflectliteType.elem #[.agg #[.pointer (some ⟨2, 206, none⟩)]]).run Tryz.prog w = .ok (.iface 242 (.agg #[.pointer (some ⟨2, 122, none⟩)])) w := by kernel_rfl
theorem Tryz.as_implementsS (w : World) : (ReflectliteType.relation "Implements" ReflectliteType.implements_ #[.agg #[.pointer (some ⟨2, 122, none⟩)], .iface 242 (.agg #[.pointer (some ⟨2, 72, none⟩)])]).run Tryz.prog w = .ok (.bool true) w := by kernel_rfl
theorem Tryz.as_assignableS (w : World) : (ReflectliteType.relation "AssignableTo" ReflectliteType.assignableTo #[.agg #[.pointer (some ⟨2, 118, none⟩)], .iface 242 (.agg #[.pointer (some ⟨2, 122, none⟩)])]).run Tryz.prog w = .ok (.bool false) w := by kernel_rfl
theorem Tryz.noAs (v : Value) (xT : TypeId) (w : World) : (Instr.typeAssert (.iface 118 v) xT 283 true).run Tryz.prog w = .ok (.tuple #[.nilIface, .bool false]) w := run_typeAssert_lacksB Tryz.underlying283 (by kernel_rfl) (by kernel_rfl) v xT w
set_option maxHeartbeats 4000000 in
theorem as_miss (e : Int) (t : Addr) (w : World) (hg : w.cell? ⟨0, 0, none⟩ = some (.iface 242 (.agg #[.pointer (some ⟨2, 72, none⟩)]))) :
    Calls Tryz.prog 105 #[.iface 118 (.int .i64 e), .iface 206 (.pointer (some t))] w fun ev w' => ev = .returned (.bool false) ∧ w' = (((w.alloc (.cells #[.pointer (some t)] 206)).alloc (.cells #[.pointer (some ⟨2, 206, none⟩), .pointer (some ⟨w.heap.size, 0, none⟩), .int .u64 150] 225)).alloc (.cells #[.pointer (some ⟨2, 206, none⟩), .pointer (some ⟨w.heap.size, 0, none⟩), .int .u64 150] 225)) := by
  have h6 := @run_callFunc_extern Tryz.prog 161 _ (fun args => ReflectliteValue.unpack (args.getD 0 (.tuple #[]))) Tryz.func161 (by kernel_rfl) (by kernel_rfl) (by kernel_rfl) (by kernel_rfl)
  have h7 := @run_callFunc_extern Tryz.prog 162 _ (ReflectliteValue.methodAny (ReflectliteValue.valueError "reflectlite.Value.Type" 0) (fun t _ _ _ => ReflectliteType.toType t)) Tryz.func162 (by kernel_rfl) (by kernel_rfl) (by kernel_rfl) (by kernel_rfl)
  have h8 := @run_callFunc_extern Tryz.prog 163 _ (ReflectliteValue.method (ReflectliteValue.valueError "reflectlite.Value.IsNil" 0) ReflectliteValue.isNil) Tryz.func163 (by kernel_rfl) (by kernel_rfl) (by kernel_rfl) (by kernel_rfl)
  have h27 := @run_callFunc_extern Tryz.prog 300 _ (ReflectliteType.abiMethod fun t => do pure (.int .u8 (← Rtype.kind t))) Tryz.func300 (by kernel_rfl) (by kernel_rfl) (by kernel_rfl) (by kernel_rfl)
  have h37 := @run_callFunc_extern Tryz.prog 312 _ (ReflectliteType.method ReflectliteType.elem) Tryz.func312 (by kernel_rfl) (by kernel_rfl) (by kernel_rfl) (by kernel_rfl)
  have h38 := @run_callFunc_extern Tryz.prog 313 _ (ReflectliteType.relation "Implements" ReflectliteType.implements_) Tryz.func313 (by kernel_rfl) (by kernel_rfl) (by kernel_rfl) (by kernel_rfl)
  have h10 := @run_callFunc_extern Tryz.prog 127 _ ReflectliteType.typeOf Tryz.func127 (by kernel_rfl) (by kernel_rfl) (by kernel_rfl) (by kernel_rfl)
  have h35 := @run_callFunc_extern Tryz.prog 310 _ (ReflectliteType.relation "AssignableTo" ReflectliteType.assignableTo) Tryz.func310 (by kernel_rfl) (by kernel_rfl) (by kernel_rfl) (by kernel_rfl)
  have tO := Tryz.as_typeOf25
  have mA := Tryz.as_methodAssignableTo
  have a25 := Tryz.as_assignableS
  have f6 := Tryz.as_valueOfB
  have f7 := Tryz.as_typeB
  have mK := Tryz.as_methodKind
  have mE := Tryz.as_methodElem
  have mI := Tryz.as_methodImplements
  have k27 := Tryz.as_kindB
  have k25 := Tryz.as_kindS
  have e27 := Tryz.as_elemB
  have i25 := Tryz.as_implementsS
  have n1 := Tryz.noAs
  have n2 := Tryz.noUnwrap
  have n3 := Tryz.noUnwraps
  have n8 := Tryz.as_isNilB ⟨w.heap.size, 0, none⟩ t ((w.alloc (.cells #[.pointer (some t)] 206)).alloc (.cells #[.pointer (some ⟨2, 206, none⟩), .pointer (some ⟨w.heap.size, 0, none⟩), .int .u64 150] 225)) (by simp)
  have hlt : 0 < w.heap.size := by
    rcases Nat.eq_zero_or_pos w.heap.size with h0 | h
    · simp [World.cell?, h0] at hg
    · exact h
  have hg2 : ((w.alloc (.cells #[.pointer (some t)] 206)).alloc (.cells #[.pointer (some ⟨2, 206, none⟩), .pointer (some ⟨w.heap.size, 0, none⟩), .int .u64 150] 225)).cell? ⟨0, 0, none⟩ = some (.iface 242 (.agg #[.pointer (some ⟨2, 72, none⟩)])) := by
    rw [World.cell?_alloc_lt _ _ ⟨0, 0, none⟩ (by simp), World.cell?_alloc_lt _ _ ⟨0, 0, none⟩ hlt]; exact hg
  go_enter Tryz.func105, Tryz.ntmps105
  go_wp2
  refine wp_loop_rounds 1 ?_
  rw [rounds_succ]
  go_wp2
  go_ret
  exact ⟨rfl, rfl⟩
end Go.Proofs
/- The functions whose answers are known: slices.Insert, errors.Is, errors.As. -/


set_option linter.all false
set_option maxRecDepth 100000
namespace Go.Proofs
open Go Go.Ev
variable {H : Heap}
theorem ins183 : InsFn Tryz.prog 183 6 72 [.int .i64 0, .int .i64 0, .int .i64 0, .str [], .int .i64 0, .nils] := ⟨⟨Tryz.f183, 220, 221, Tryz.func183, by kernel_rfl, by kernel_rfl, by kernel_rfl, by kernel_rfl⟩, rfl, by decide⟩
theorem ins275 : InsFn Tryz.prog 275 5 56 [.str [], .str [], .int .i64 0, .bool false, .int .i64 0] := ⟨⟨Tryz.f275, 281, 282, Tryz.func275, by kernel_rfl, by kernel_rfl, by kernel_rfl, by kernel_rfl⟩, rfl, by decide⟩
theorem num_inv {φ : Phi} {n : Int} {v : Value} (h : VRel Tryz.prog φ (.iface 118 (.int .i64 n)) v) : v = .iface 118 (.int .i64 n) := by
  cases h with | iface _ _ v' h => cases h; rfl
theorem nil_inv {φ : Phi} {v : Value} (h : VRel Tryz.prog φ .nili v) : v = .nilIface := by cases h; rfl
theorem b1 {α : Type} {a b : Nat} {x : Option α} {y : α} (e : bif' (Nat.beq a b) x none = some y) : a = b ∧ x = some y := by
  cases hb : Nat.beq a b with
  | true => rw [hb] at e; exact ⟨Nat.eq_of_beq_eq_true hb, e⟩
  | false => rw [hb] at e; cases e
theorem is_ok (args : List AV) (H : Heap) (v : AV) (G : Heap) (h : isA 118 args H = some (.ok v G)) : FnOk Tryz.prog 64 args H fun v' G' => v' = v ∧ G' = G := by
  unfold isA at h
  split at h
  case h_3 => cases h
  · obtain ⟨rfl, h⟩ := b1 h
    cases h
    refine FnOk.of_calls fun φ w args' ha hw => ?_
    obtain ⟨x, y, rfl, h1, h2⟩ := two_args ha
    obtain rfl := nil_inv h1
    obtain rfl := num_inv h2
    refine (is_nil _ w).mono ?_
    rintro e w' ⟨rfl, rfl⟩
    exact ⟨⟨_, rfl, .bool _⟩, Grows.refl _⟩
  · obtain ⟨q1, g1⟩ := b1 h
    obtain ⟨q2, g2⟩ := b1 g1
    rw [eqI_eq] at g2
    cases g2
    rw [q1, q2]
    refine FnOk.of_calls fun φ w args' ha hw => ?_
    obtain ⟨x, y, rfl, h1, h2⟩ := two_args ha
    obtain rfl := num_inv h1
    obtain rfl := num_inv h2
    refine (is_num _ _ w).mono ?_
    rintro e w' ⟨rfl, rfl⟩
    refine ⟨⟨_, rfl, ?_⟩, Grows.refl _⟩
    exact .bool _
theorem as_ok (args : List AV) (H : Heap) (v : AV) (G : Heap) (h : asA 118 165 206 args H = some (.ok v G)) : FnOk Tryz.prog 105 args H fun v' G' => v' = v ∧ G' = G := by
  unfold asA at h
  split at h
  case h_3 => cases h
  · cases h
    refine FnOk.of_calls fun φ w args' ha hw => ?_
    obtain ⟨x, y, rfl, h1, h2⟩ := two_args ha
    obtain rfl := nil_inv h1
    refine (as_nil y w).mono ?_
    rintro e w' ⟨rfl, rfl⟩
    exact ⟨⟨_, rfl, .bool _⟩, Grows.refl _⟩
  · rename_i t1 n t2 k
    obtain ⟨q1, h⟩ := b1 h
    rw [q1]
    cases hb : Nat.beq t2 206 with
    | true =>
      rw [hb] at h
      cases h
      obtain rfl := Nat.eq_of_beq_eq_true hb
      refine FnOk.of_calls fun φ w args' ha hw => ?_
      obtain ⟨x, y, rfl, h1, h2⟩ := two_args ha
      obtain rfl := num_inv h1
      cases h2 with
      | iface _ _ u' h2 =>
        cases h2 with
        | ptr _ _ a ha2 =>
          refine (as_miss n ⟨a.b, a.o + 0, none⟩ w (hw.rom 0 _ (List.mem_singleton.2 rfl)).1).mono ?_
          rintro e w' ⟨rfl, rfl⟩
          exact ⟨⟨_, rfl, .bool _⟩, (((Grows.alloc _ _).trans (Grows.alloc _ _)).trans (Grows.alloc _ _))⟩
    | false =>
      rw [hb, bif_false] at h
      obtain ⟨q2, h⟩ := b1 h
      rw [q2]
      split at h
      case h_2 => cases h
      rename_i x hk
      rw [Heap.setC_eq] at h
      cases h
      refine FnOk.of_calls_set (y' := .int .i64 n) hk (fun φ => .int _ _) rfl (fun φ => ⟨_, .bool _⟩) fun φ w args' ha hw => ?_
      obtain ⟨v, u, rfl, h1, h2⟩ := two_args ha
      obtain rfl := num_inv h1
      cases h2 with
      | iface _ _ u' h2 =>
        cases h2 with
        | ptr _ _ a ha2 =>
          refine ⟨a, ha2, fun old ho hf => ?_⟩
          refine (as_hit n ⟨a.b, a.o, none⟩ old w (hw.rom 0 _ (List.mem_singleton.2 rfl)).1 ho hf).mono ?_
          rintro e w' ⟨rfl, rfl⟩
          exact ⟨⟨_, rfl, .bool _⟩, _, (((Grows.alloc _ _).trans (Grows.alloc _ _)).trans (Grows.alloc _ _)).trans (Grows.alloc _ _), rfl⟩
/-- what is known beforehand -/
noncomputable def XK : Orc := orX 183 (insA 6 72) (orX 275 (insA 5 56) (orX 64 (isA 118) (orX 105 (asA 118 165 206) X0)))
theorem good_XK : GoodX Tryz.prog XK := good_orX (insA_sound ins183) (good_orX (insA_sound ins275) (good_orX is_ok (good_orX as_ok good_X0)))
end Go.Proofs
/- The known example: reckoned. -/

set_option linter.all false
set_option maxRecDepth 100000
namespace Go.Proofs
open Go Go.Ev
variable {H : Heap}
theorem known_run : okB (evFn Tryz.prog XK 100000 8 [] hp0) = true := by kernel_rfl
theorem known_ok : FnOk Tryz.prog 8 [] H fun r G => r = .bool true ∧ G = H := FnOk.lift0 rfl rfl (FnOk.of_evB good_XK known_run)
noncomputable def kA (args : List AV) (H : Heap) : Option RC := match args with
  | [] => some (.ok (.bool true) H)
  | _ => none
theorem kA_ok (args : List AV) (H : Heap) (v : AV) (G : Heap) (h : kA args H = some (.ok v G)) : FnOk Tryz.prog 8 args H fun v' G' => v' = v ∧ G' = G := by
  unfold kA at h
  split at h
  · cases h; exact known_ok
  · cases h
/-- the known example is known, too -/
noncomputable def XL : Orc := orX 8 kA XK
theorem good_XL : GoodX Tryz.prog XL := good_orX kA_ok good_XK
end Go.Proofs
/- What is still to be done, reckoned. -/

set_option linter.all false
namespace Go.Ev
variable {P : Program} {φ ψ : Phi} {H : Heap} {w u : World} {T : Tr AV}

theorem isC_of {β : Type} {eqv : AV → AV → Bool} {T : Tr AV} {k : Option K} {v : AV} (h : Holds eqv T k v) (f c : β) : isC eqv T k v f c = c := by
  rcases isC_sel eqv T k v with h1 | ⟨_, h1⟩
  · exfalso
    cases k with
    | none => have := h1 (β := Bool) true false; cases this
    | some k =>
      obtain ⟨u, hu, he⟩ := h k rfl
      have h2 := h1 (β := Bool) true false
      have h3 : isC eqv T (some k) v true false = Option.rec (motive := fun _ => Bool) true (fun u => bif' (eqv v u) false true) (T.get k) := rfl
      rw [h3, hu] at h2
      have h4 : bif' (eqv v u) false true = true := h2
      rw [he] at h4
      cases h4
  · exact h1 f c
theorem Holds.imp {eqv eqw : AV → AV → Bool} (hi : ∀ a b, eqv a b = true → eqw a b = true) {T : Tr AV} {k : Option K} {v : AV} (h : Holds eqv T k v) : Holds eqw T k v :=
  fun k' hk => by obtain ⟨u, h1, h2⟩ := h k' hk; exact ⟨u, h1, hi _ _ h2⟩
theorem reC_of {β : Type} {eqv eqw : AV → AV → Bool} (hi : ∀ a b, eqv a b = true → eqw a b = true) {T : Tr AV} {H : Heap} : ∀ {re : List Rk}, (∀ r ∈ re, Seen eqv T H r) → ∀ (f c : β), reC eqw T H re f c = c
  | [], _, f, c => rfl
  | .mk g k gd :: re, h, f, c => by
    have hrw : reC eqw T H (.mk g k gd :: re) f c = gdC T gd f (R1.rec (motive := fun _ => β) f (fun v _ => isC eqw T k v f (reC eqw T H re f c)) (fun _ _ => f) (g T H)) (isC eqw T k (.tup []) f (reC eqw T H re f c)) := rfl
    have ih := reC_of hi (T := T) (H := H) (re := re) (fun r hr => h r (List.mem_cons_of_mem _ hr)) f c
    rw [hrw, ih]
    rcases h _ (List.mem_cons_self ..) with ⟨h1, v, G, hg, hh⟩ | ⟨h1, hh⟩
    · rw [h1, hg]
      exact isC_of (hh.imp hi) f c
    · rw [h1]
      exact isC_of (hh.imp hi) f c
theorem eqAV_eqvC (a b : AV) (h : eqAV a b = true) : eqvC a b = true := by
  have := eqAV_eq h; subst this; exact eqvC_refl a
theorem steps_goesDc {E : FuncId → List AV → Heap → RC} : ∀ (l : List Stp) (T : Tr AV) (H : Heap) {e : Ex} {T' : Tr AV} {H' : Heap} {K : Tr AV → Heap → Prop},
    stepsC eqAV E l T H .fail (fun T H => Res.ok .norm T H) = .ok e T' H' → (e = .norm → K T' H') → Stp.goesD P E eqvC l T H K
  | [], T, H, e, T', H', K, h, hk => by
    have h : Res.ok .norm T H = .ok e T' H' := h
    cases h; exact hk rfl
  | .mk g dst gd re :: l, T, H, e, T', H', K, h, hk => by
    have h : gdC T gd .fail
      (R1.rec (motive := fun _ => Res) .fail (fun v G => putT T dst v fun T => reC eqAV T G re .fail (stepsC eqAV E l T G .fail fun T H => Res.ok .norm T H)) (fun fn args => RC.rec (motive := fun _ => Res) .fail (fun v G => putT T dst v fun T => reC eqAV T G re .fail (stepsC eqAV E l T G .fail fun T H => Res.ok .norm T H)) (E fn args H)) (g T H))
      (putT T dst (.tup []) fun T => stepsC eqAV E l T H .fail fun T H => Res.ok .norm T H) = .ok e T' H' := h
    show gdC T gd False
      (match g T H with
        | .fail => False
        | .val v G => putT T dst v fun T => reC eqvC T G re False (Stp.goesD P E eqvC l T G K)
        | .call f args => match E f args H with | .fail => False | .ok v G => putT T dst v fun T => reC eqvC T G re False (Stp.goesD P E eqvC l T G K))
      (putT T dst (.tup []) fun T => Stp.goesD P E eqvC l T H K)
    rcases gdC_sel T gd with h1 | h1 | h1 <;> rw [h1] at h ⊢
    · cases h
    · cases hg : g T H with
      | fail => rw [hg] at h; cases h
      | val v G =>
        rw [hg] at h
        have h : (putT T dst v fun T => reC eqAV T G re .fail (stepsC eqAV E l T G .fail fun T H => Res.ok .norm T H)) = .ok e T' H' := h
        show putT T dst v fun T => reC eqvC T G re False (Stp.goesD P E eqvC l T G K)
        rw [putD_eq] at h ⊢
        rcases reC_sel eqAV (putD T dst v) G re with h2 | ⟨hs, h2⟩ <;> rw [h2] at h
        · cases h
        · rw [reC_of eqAV_eqvC hs]; exact steps_goesDc l _ _ h hk
      | call f args =>
        rw [hg] at h
        have h : RC.rec (motive := fun _ => Res) .fail (fun v G => putT T dst v fun T => reC eqAV T G re .fail (stepsC eqAV E l T G .fail fun T H => Res.ok .norm T H)) (E f args H) = .ok e T' H' := h
        show (match E f args H with | .fail => False | .ok v G => putT T dst v fun T => reC eqvC T G re False (Stp.goesD P E eqvC l T G K))
        cases hc : E f args H with
        | fail => rw [hc] at h; cases h
        | ok v G =>
          rw [hc] at h
          have h : (putT T dst v fun T => reC eqAV T G re .fail (stepsC eqAV E l T G .fail fun T H => Res.ok .norm T H)) = .ok e T' H' := h
          show putT T dst v fun T => reC eqvC T G re False (Stp.goesD P E eqvC l T G K)
          rw [putD_eq] at h ⊢
          rcases reC_sel eqAV (putD T dst v) G re with h2 | ⟨hs, h2⟩ <;> rw [h2] at h
          · cases h
          · rw [reC_of eqAV_eqvC hs]; exact steps_goesDc l _ _ h hk
    · rw [putD_eq] at h ⊢
      exact steps_goesDc l _ _ h hk
theorem evC_wpc {E : FuncId → List AV → Heap → RC} (hE : Good P E) {N : Nat} {H0 : Heap} : ∀ (n : Nat) (c : CC) (T : Tr AV) (H : Heap) {e : Ex} {T' : Tr AV} {H' : Heap}, evC E n c T H = .ok e T' H' →
    ∀ {Q : Ex → Tr AV → Heap → Prop}, Q e T' H' → wpc P E N H0 c T H Q := by
  intro n
  induction n with
  | zero => intro c T H e T' H' h; cases h
  | succ n ih =>
    intro c T H e T' H' h Q hq
    cases c with
    | skip => cases h; exact hq
    | ret => cases h; exact hq
    | exit m => cases h; exact hq
    | region l =>
      have h : stepsC eqAV E l T H .fail (fun T H => Res.ok .norm T H) = .ok e T' H' := h
      have := steps_norm h; subst this
      exact steps_goes hE l T H h fun _ => hq
    | regionD l =>
      have h : stepsC eqAV E l T H .fail (fun T H => Res.ok .norm T H) = .ok e T' H' := h
      have := steps_norm h; subst this
      exact steps_goesDc l T H h fun _ => hq
    | seq x y =>
      have h : onNorm (evC E n x T H) (evC E n y) = .ok e T' H' := h
      show wpc P E N H0 x T H (behind (fun T H => wpc P E N H0 y T H Q) Q)
      cases h1 : evC E n x T H with
      | fail => rw [h1] at h; cases h
      | ok e1 T1 H1 =>
        rw [h1] at h
        refine ih x T H h1 ?_
        cases e1 with
        | norm => exact ih y T1 H1 h hq
        | exit m => cases h; exact hq
        | ret => cases h; exact hq
    | cond o x y =>
      have h : (withX T o .fail fun v => asBoolC v .fail fun b => bif' b (evC E n x T H) (evC E n y T H)) = .ok e T' H' := h
      show condP (evX T o) (wpc P E N H0 x T H Q) (wpc P E N H0 y T H Q)
      rcases withX_eq T o Res.fail (fun v => asBoolC v .fail fun b => bif' b (evC E n x T H) (evC E n y T H)) with ⟨_, e1⟩ | ⟨v, hv, e1⟩ <;> rw [e1] at h
      · cases h
      · rw [hv]
        cases v <;> first | (cases h; done) | skip
        rename_i b
        cases b
        · exact ih y T H h hq
        · exact ih x T H h hq
    | block id x =>
      have h : onBlock (evC E n x T H) id = .ok e T' H' := h
      show wpc P E N H0 x T H (outOf id Q)
      cases h1 : evC E n x T H with
      | fail => rw [h1] at h; cases h
      | ok e1 T1 H1 =>
        rw [h1] at h
        refine ih x T H h1 ?_
        cases e1 with
        | norm => cases h; exact hq
        | exit m =>
          have h : bif' (Nat.beq m id) (.ok .norm T1 H1) (.ok (.exit m) T1 H1) = Res.ok e T' H' := h
          show (if m = id then _ else _)
          by_cases hm : m = id
          · rw [if_pos hm]; subst hm; rw [show Nat.beq m m = true from Nat.beq_refl m] at h; cases h; exact hq
          · rw [if_neg hm]
            have : Nat.beq m id = false := by cases hb : Nat.beq m id; rfl; exact absurd (Nat.eq_of_beq_eq_true hb) hm
            rw [this] at h; cases h; exact hq
        | ret => cases h; exact hq
    | loop x => exact evC_sound hE (n + 1) (.loop x) T H h hq

/-- the items that are left, reckoned behind one another -/
noncomputable def evI (E : FuncId → List AV → Heap → RC) (n : Nat) (k : List It) : Ex → Tr AV → Heap → Res :=
  List.rec (motive := fun _ => Ex → Tr AV → Heap → Res) (fun e T H => .ok e T H)
    (fun i _ ih e T H => Ex.rec (motive := fun _ => Res)
      (It.rec (motive := fun _ => Res)
        (fun l => Res.rec (motive := fun _ => Res) .fail (fun e T H => ih e T H) (stepsC eqAV E l T H .fail fun T H => .ok .norm T H))
        (fun l => Res.rec (motive := fun _ => Res) .fail (fun e T H => ih e T H) (stepsC eqAV E l T H .fail fun T H => .ok .norm T H))
        (fun c => Res.rec (motive := fun _ => Res) .fail (fun e T H => ih e T H) (evC E n c T H))
        (fun _ => ih .norm T H) i)
      (fun m => It.rec (motive := fun _ => Res) (fun _ => ih (.exit m) T H) (fun _ => ih (.exit m) T H) (fun _ => ih (.exit m) T H)
        (fun id => bif' (Nat.beq m id) (ih .norm T H) (ih (.exit m) T H)) i)
      (ih .ret T H) e) k
theorem evI_sound {E : FuncId → List AV → Heap → RC} (hE : Good P E) {N : Nat} {H0 : Heap} (n : Nat) : ∀ (k : List It) (e : Ex) (T : Tr AV) (H : Heap) {e' : Ex} {T' : Tr AV} {H' : Heap}, evI E n k e T H = .ok e' T' H' →
    ∀ {Q : Ex → Tr AV → Heap → Prop}, Q e' T' H' → postW P E N H0 k Q e T H
  | [], e, T, H, e', T', H', h, Q, hq => by cases h; exact hq
  | i :: k, e, T, H, e', T', H', h, Q, hq => by
    have ih := fun e T H h => evI_sound hE (N := N) (H0 := H0) n k e T H (e' := e') (T' := T') (H' := H') h (Q := Q) hq
    cases e with
    | norm =>
      cases i with
      | reg l =>
        have h : Res.rec (motive := fun _ => Res) .fail (fun e T H => evI E n k e T H) (stepsC eqAV E l T H .fail fun T H => .ok .norm T H) = .ok e' T' H' := h
        cases h1 : stepsC eqAV E l T H .fail (fun T H => Res.ok .norm T H) with
        | fail => rw [h1] at h; cases h
        | ok e1 T1 H1 =>
          rw [h1] at h
          have := steps_norm h1; subst this
          exact steps_goes hE l T H h1 fun _ => ih .norm T1 H1 h
      | regD l =>
        have h : Res.rec (motive := fun _ => Res) .fail (fun e T H => evI E n k e T H) (stepsC eqAV E l T H .fail fun T H => .ok .norm T H) = .ok e' T' H' := h
        cases h1 : stepsC eqAV E l T H .fail (fun T H => Res.ok .norm T H) with
        | fail => rw [h1] at h; cases h
        | ok e1 T1 H1 =>
          rw [h1] at h
          have := steps_norm h1; subst this
          exact steps_goesDc l T H h1 fun _ => ih .norm T1 H1 h
      | code c =>
        have h : Res.rec (motive := fun _ => Res) .fail (fun e T H => evI E n k e T H) (evC E n c T H) = .ok e' T' H' := h
        cases h1 : evC E n c T H with
        | fail => rw [h1] at h; cases h
        | ok e1 T1 H1 =>
          rw [h1] at h
          exact evC_wpc hE n c T H h1 (ih e1 T1 H1 h)
      | inB id => exact ih .norm T H h
    | exit m =>
      cases i with
      | reg l => exact ih (.exit m) T H h
      | regD l => exact ih (.exit m) T H h
      | code c => exact ih (.exit m) T H h
      | inB id =>
        have h : bif' (Nat.beq m id) (evI E n k .norm T H) (evI E n k (.exit m) T H) = .ok e' T' H' := h
        show (if m = id then _ else _)
        by_cases hm : m = id
        · rw [if_pos hm]; subst hm; rw [show Nat.beq m m = true from Nat.beq_refl m] at h; exact ih .norm T H h
        · rw [if_neg hm]
          have : Nat.beq m id = false := by cases hb : Nat.beq m id; rfl; exact absurd (Nat.eq_of_beq_eq_true hb) hm
          rw [this] at h; exact ih (.exit m) T H h
    | ret =>
      cases i <;> exact ih .ret T H h
/-- all that is left, reckoned: is the function's answer yes? -/
noncomputable def evB (E : FuncId → List AV → Heap → RC) (n : Nat) (k : List It) (kr : K) (T : Tr AV) (H : Heap) : Bool :=
  Res.rec (motive := fun _ => Bool) false (fun e T _ => Ex.rec (motive := fun _ => Bool)
    (Option.rec (motive := fun _ => Bool) false (fun v => asBoolC v false fun b => b) (T.get kr)) (fun _ => false)
    (Option.rec (motive := fun _ => Bool) false (fun v => asBoolC v false fun b => b) (T.get kr)) e) (evI E n k .norm T H)
theorem evB_sound {E : FuncId → List AV → Heap → RC} (hE : Good P E) {N : Nat} {H0 : Heap} {n : Nat} {k : List It} {kr : K} {T : Tr AV} {H : Heap} (h : evB E n k kr T H = true) {Q : Ex → Tr AV → Heap → Prop}
    (hq : ∀ e T' H', e.over → T'.get kr = some (.bool true) → Q e T' H') : WW P E N H0 k T H Q := by
  unfold evB at h
  cases h1 : evI E n k .norm T H with
  | fail => rw [h1] at h; cases h
  | ok e T1 H1 =>
    rw [h1] at h
    refine evI_sound hE n k .norm T H h1 ?_
    have fin : (Option.rec (motive := fun _ => Bool) false (fun v => asBoolC v false fun b => b) (T1.get kr) : Bool) = true → T1.get kr = some (.bool true) := by
      intro h
      cases hk : T1.get kr with
      | none => rw [hk] at h; cases h
      | some v =>
        rw [hk] at h
        cases v <;> first | (cases h; done) | skip
        rename_i b
        cases b
        · cases h
        · rfl
    cases e with
    | norm => exact hq _ _ _ trivial (fin h)
    | exit m => cases h
    | ret => exact hq _ _ _ trivial (fin h)
/-- a call, and all that is left behind it -/
noncomputable def evCL (E : FuncId → List AV → Heap → RC) (n : Nat) (kr : K) (f : FuncId) (args : List AV) (d : Option K) (k : List It) (T : Tr AV) (H : Heap) : Bool :=
  RC.rec (motive := fun _ => Bool) false (fun v G => putT T d v fun T => evB E n k kr T G) (E f args H)
theorem CL.ev {E : FuncId → List AV → Heap → RC} (hE : Good P E) {N : Nat} {H0 : Heap} {n : Nat} {kr : K} {f : FuncId} {args : List AV} {d : Option K} {k : List It} {T : Tr AV} {H : Heap} {Q : Ex → Tr AV → Heap → Prop}
    (h : evCL E n kr f args d k T H = true) (hq : ∀ e T' H', e.over → T'.get kr = some (.bool true) → Q e T' H') : CL P E N H0 f args d k T H Q := by
  unfold evCL at h
  cases hc : E f args H with
  | fail => rw [hc] at h; cases h
  | ok v G =>
    rw [hc] at h
    have h : (putT T d v fun T => evB E n k kr T G) = true := h
    rw [putD_eq] at h
    have hf : FnOk P f args H fun v' G' => v' = v ∧ G' = G := fun φ w args' ha hw => (hE f args H v G hc φ w args' ha hw).mono fun e u hr => ⟨v, G, ⟨rfl, rfl⟩, hr⟩
    refine CL.of hf ?_
    rintro _ _ ⟨rfl, rfl⟩
    exact evB_sound hE h hq
/-- of all numbers below n -/
noncomputable def allN (n : Nat) (f : Nat → Bool) : Bool := Nat.rec (motive := fun _ => Bool) true (fun i r => bif' (f i) r false) n
theorem allN_of {f : Nat → Bool} : ∀ {n : Nat}, allN n f = true → ∀ i, i < n → f i = true
  | 0, _, i, hi => absurd hi (Nat.not_lt_zero i)
  | n + 1, h, i, hi => by
    have h : bif' (f n) (allN n f) false = true := h
    cases hn : f n with
    | false => rw [hn] at h; cases h
    | true =>
      rw [hn] at h
      rcases Nat.lt_or_eq_of_le (Nat.le_of_lt_succ hi) with h1 | rfl
      · exact allN_of h i h1
      · exact hn
theorem allN2 {a b : Nat} {f : Nat → Nat → Bool} (h : allN a (fun i => allN b (f i)) = true) : ∀ i, i < a → ∀ j, j < b → f i j = true := fun i hi j hj => allN_of (allN_of h i hi) j hj
theorem allN3 {a b c : Nat} {f : Nat → Nat → Nat → Bool} (h : allN a (fun i => allN b (fun j => allN c (f i j))) = true) : ∀ i, i < a → ∀ j, j < b → ∀ l, l < c → f i j l = true := fun i hi j hj l hl => allN_of (allN2 h i hi j hj) l hl
/-- the memory that is left -/
noncomputable def resH (r : RC) : Heap := RC.rec (motive := fun _ => Heap) hp0 (fun _ G => G) r
/-- is that what comes of it? -/
noncomputable def isR (r : RC) (v : AV) : Bool := RC.rec (motive := fun _ => Bool) false (fun w _ => eqAV w v) r
theorem FnOk.of_evV {X : Orc} (hX : GoodX P X) {n : Nat} {f : FuncId} {args : List AV} {v : AV} (h : isR (evFn P X n f args H) v = true) : FnOk P f args H fun v' G => v' = v ∧ G = resH (evFn P X n f args H) := by
  cases hr : evFn P X n f args H with
  | fail => rw [hr] at h; cases h
  | ok w G =>
    rw [hr] at h
    have h : eqAV w v = true := h
    rw [← eqAV_eq h]
    exact FnOk.of_ev hX hr
end Go.Ev
/- Objects that a call changes: memories that aren't spelt out. -/


set_option linter.all false
set_option maxRecDepth 100000
namespace Go.Ev
variable {P : Program}
section
variable {N : Nat} {H0 H : Heap} {T : Tr AV} {Q : Ex → Tr AV → Heap → Prop}
theorem At2.sub {φ0 : Phi} {w0 u : World} {a : Act} {ts : List (K × AV)} (hts : ∀ p ∈ ts, T.get p.1 = some p.2) (h : At2 P φ0 H0 w0 N T H a u) : At2 P φ0 H0 w0 N (trOf ts) H a u := by
  obtain ⟨hd, ψ, ht, hw, he⟩ := h
  exact ⟨hd, ψ, ⟨ht.size, fun t v hv => ht.get t v (hts _ (get_trOf ts _ v hv))⟩, hw, he⟩
theorem Tri.sub {c : Code} {ts : List (K × AV)} (hts : ∀ p ∈ ts, T.get p.1 = some p.2) (h : Tri P N H0 c (trOf ts) H Q) : Tri P N H0 c T H Q :=
  fun φ0 w0 a u h0 ha => h φ0 w0 a u h0 (ha.sub hts)
theorem TriC.sub {c : CC} {ts : List (K × AV)} (hts : ∀ p ∈ ts, T.get p.1 = some p.2) (h : TriC P N H0 c (trOf ts) H Q) : TriC P N H0 c T H Q := fun code hc => (h code hc).sub hts
end
section
variable {E : FuncId → List AV → Heap → RC} {N : Nat} {H0 : Heap} {k : List It} {Q : Ex → Tr AV → Heap → Prop} {T : Tr AV} {G : Heap}
theorem WW.nil (h : WW P E N H0 k T (G.ext []) Q) : WW P E N H0 k T G Q := by rw [Heap.ext_nil] at h; exact h
end
/-- the slots that are told of -/
@[go_sem] def Slots (T : Tr AV) : List (K × AV) → Prop
  | [] => True
  | p :: ts => T.get p.1 = some p.2 ∧ Slots T ts
theorem Slots.all {T : Tr AV} : ∀ {ts : List (K × AV)}, Slots T ts → ∀ p ∈ ts, T.get p.1 = some p.2
  | [], _, p, h => by cases h
  | q :: ts, h, p, hp => by
    rcases List.mem_cons.1 hp with rfl | hp
    · exact h.1
    · exact Slots.all h.2 p hp
namespace Heap
attribute [go_sem] key_set nx_set'
@[go_sem] theorem get_key_of {B G : Heap} {l : List Blk} {i : Nat} (h : B.nx = G.nx) (hi : i < l.length) : (B.ext l).get (G.key i) = l[i]? := by
  have : G.key i = B.key i := by unfold key; rw [h]
  rw [this, get_ext_key _ _ _ hi]
@[go_sem] theorem setC_key_of {α : Type} {B G : Heap} {l : List Blk} {i : Nat} (h : B.nx = G.nx) (hi : i < l.length) (b : Blk) (c : Heap → α) : (B.ext l).setC (G.key i) b c = c (B.ext (l.set i b)) := by
  have : G.key i = B.key i := by unfold key; rw [h]
  rw [this, setC_ext _ _ _ _ _ hi]
@[go_sem] theorem get_key_set {G : Heap} {s : K} {b : Blk} {l : List Blk} {i : Nat} (hi : i < l.length) : ((G.set s b).ext l).get (G.key i) = l[i]? := get_key_of rfl hi
@[go_sem] theorem setC_key_set {α : Type} {G : Heap} {s : K} {b : Blk} {l : List Blk} {i : Nat} (hi : i < l.length) (d : Blk) (c : Heap → α) : ((G.set s b).ext l).setC (G.key i) d c = c ((G.set s b).ext (l.set i d)) := setC_key_of rfl hi d c
end Heap
theorem Arr.set {G : Heap} {k : K} {b : Blk} {wr : Bool} {e e' : Nat} {rows : List (List AV)} {v : AV} {xs : List (List AV)} (h : Arr G e v xs) (hk : G.get k = some (.row wr e' rows)) (he : e ≠ e') : Arr (G.set k b) e v xs := by
  rcases h with h | ⟨j, off, ex, cap, rfl, hj, h⟩
  · exact .inl h
  · refine .inr ⟨j, off, ex, cap, rfl, hj, fun hx => ?_⟩
    obtain ⟨r, wr', rows', h1, h2, h3⟩ := h hx
    refine ⟨r, wr', rows', h1, ?_, h3⟩
    rw [Heap.get_set, if_neg fun e => ?_]
    · exact h2
    · subst e; rw [hk] at h2; cases h2; exact he rfl
end Go.Ev
/- A letter told: walked. -/




set_option linter.all false
set_option maxRecDepth 100000
namespace Go.Proofs
open Go Go.Ev
variable {H : Heap}
/-- a letter of the mover -/
def toldL (k : Int) (a b c d e : AV) : List AV := [.int .i64 k, .int .i64 100, .int .i64 0, a, b, c, d, e, .int .i64 0, .str [], .str [], .str [], .int .i64 0, .nils, .int .i64 0, .str [], .int .i64 0, .nils, .str [], .str [], .nils, .nils, .nils, .str []]
theorem read5 {β : Type} (f : β) (a b c d e : AV) (k : List AV → β) : readC f 1 [[a], [b], [c], [d], [e]] 0 5 k = k [a, b, c, d, e] := rfl
theorem f17_ok (k a b c d e : Int) : FnOk Tryz.prog 17 [.int .i64 k, .agg [.int .i64 a, .int .i64 b, .int .i64 c, .int .i64 d, .int .i64 e]] H fun r G => r = .agg (toldL k (.int .i64 a) (.int .i64 b) (.int .i64 c) (.int .i64 d) (.int .i64 e)) ∧ G = H := by
  refine FnOk.assume fun hok => ?_
  refine FnOk.drop (R := fun r => r = .agg (toldL k (.int .i64 a) (.int .i64 b) (.int .i64 c) (.int .i64 d) (.int .i64 e))) ?_ (by rintro v rfl ρ; simp only [toldL, AV.ren, AV.rens])
  refine FnOk.of_WW Tryz.func17 rfl C17ok R17ok E0 good_E0 ?_
  simp only [go_sem, C17, read5]
  exact ⟨rfl, _, rfl⟩
end Go.Proofs
/- NodeStray: what is reckoned ahead of the letter. -/

set_option linter.all false
set_option maxRecDepth 100000
namespace Go.Proofs
open Go Go.Ev
variable {H : Heap}
noncomputable abbrev EE : FuncId → List AV → Heap → RC := evFn Tryz.prog XL 100000
theorem good_EE : Ev.Good Tryz.prog EE := evFn_sound Tryz.prog good_XL 100000
noncomputable def r1 : RC := EE 9 [.int .i64 0, .slice (hp0.key 0) 0 1 8 true 1] (hp0.ext [Blk.row true 8 [[.int .i64 1, .int .i64 2, .str [], .str [], .bool false, .nils, .nils, .nils]]])
noncomputable def G1 : Heap := resH r1
noncomputable def r2 : RC := EE 14 [.ptr K.z.o.i.i 0] G1
noncomputable def G2 : Heap := resH r2
noncomputable def r3 : RC := EE 15 [.ptr K.z.o.o.i 0, .int .i64 1] G2
noncomputable def G3 : Heap := resH r3
theorem run3 : and' (isR r1 (.ptr K.z.o.i.i 0)) (and' (isR r2 (.ptr K.z.o.o.i 0)) (isR r3 (.tup [.agg [.int .i64 1, .int .i64 2, .str [], .str [], .bool false, .nils, .nils, .nils], .bool true]))) = true := by kernel_rfl
end Go.Proofs
/- NodeStray: what is left behind the letter. -/

set_option linter.all false
set_option maxRecDepth 100000
namespace Go.Proofs
open Go Go.Ev
variable {H : Heap}
theorem run1 : isR r1 (.ptr K.z.o.i.i 0) = true := (and'_eq run3).1
theorem run2 : isR r2 (.ptr K.z.o.o.i 0) = true := (and'_eq (and'_eq run3).2).1
theorem run4 : isR r3 (.tup [.agg [.int .i64 1, .int .i64 2, .str [], .str [], .bool false, .nils, .nils, .nils], .bool true]) = true := (and'_eq (and'_eq run3).2).2
theorem new_ok : FnOk Tryz.prog 9 [.int .i64 0, .slice (hp0.key 0) 0 1 8 true 1] (hp0.ext [Blk.row true 8 [[.int .i64 1, .int .i64 2, .str [], .str [], .bool false, .nils, .nils, .nils]]]) fun v G => v = .ptr K.z.o.i.i 0 ∧ G = G1 := FnOk.of_evV good_XL run1
theorem hold_ok : FnOk Tryz.prog 14 [.ptr K.z.o.i.i 0] G1 fun v G => v = .ptr K.z.o.o.i 0 ∧ G = G2 := FnOk.of_evV good_XL run2
theorem get_ok : FnOk Tryz.prog 15 [.ptr K.z.o.o.i 0, .int .i64 1] G2 fun v G => v = .tup [.agg [.int .i64 1, .int .i64 2, .str [], .str [], .bool false, .nils, .nils, .nils], .bool true] ∧ G = G3 := FnOk.of_evV good_XL run4
/-- what stands behind -/
def sndC : CC → CC
  | .seq _ y => y
  | c => c
noncomputable def rest5 : CC := sndC (sndC (sndC (sndC (sndC (sndC (sndC (sndC (sndC C5))))))))
noncomputable def tA (k i e t K E U : Nat) : Bool := evCL EE 100000 Ev.K.z.o.o.i 10 [AV.ptr Ev.K.z.o.i.i 0, AV.agg [AV.int IntKind.i64 ((7 + K : Nat) : Int), AV.int IntKind.i64 100, AV.int IntKind.i64 ((U : Nat) : Int), AV.int IntKind.i64 ((0 + 1 : Nat) : Int), AV.int IntKind.i64 ((E + 1 : Nat) : Int), AV.int IntKind.i64 0, AV.int IntKind.i64 0, AV.int IntKind.i64 0, AV.int IntKind.i64 0, AV.str [], AV.str [], AV.str [], AV.int IntKind.i64 0, AV.nils, AV.int IntKind.i64 0, AV.str [], AV.int IntKind.i64 0, AV.nils, AV.str [], AV.str [], AV.nils, AV.nils, AV.nils, AV.str []]] (some Ev.K.z.i.i.i.i.o) [It.reg [], It.code rest5] ((((((Tr.lf.nd (some (AV.int IntKind.i64 (IntKind.i64.wrap ((k : Nat) : Int)))) Tr.lf).nd none (Tr.lf.nd (some (AV.int IntKind.i64 ((U : Nat) : Int))) Tr.lf)).nd none ((Tr.lf.nd (some (AV.int IntKind.u8 ((e : Nat) : Int))) Tr.lf).nd (some (AV.ptr Ev.K.z.o.i.i 0)) (Tr.lf.nd (some (AV.ptr (G3.key 1) 4)) Tr.lf))).nd (some (AV.int IntKind.u8 ((t : Nat) : Int))) (((Tr.lf.nd (some (AV.int IntKind.u8 ((i : Nat) : Int))) Tr.lf).nd (some (AV.bool true)) (Tr.lf.nd (some (AV.int IntKind.i64 ((0 + 1 : Nat) : Int))) Tr.lf)).nd (some (AV.bool true)) ((Tr.lf.nd (some (AV.agg [AV.int IntKind.i64 ((0 + 1 : Nat) : Int), AV.int IntKind.i64 ((E + 1 : Nat) : Int), AV.int IntKind.i64 0, AV.int IntKind.i64 0, AV.int IntKind.i64 0])) Tr.lf).nd (some (AV.tup [AV.agg [AV.int IntKind.i64 1, AV.int IntKind.i64 2, AV.str [], AV.str [], AV.bool false, AV.nils, AV.nils, AV.nils], AV.bool true])) (Tr.lf.nd (some (AV.ptr Ev.K.z.o.i.i 0)) Tr.lf)))).nd (some (AV.int IntKind.u8 ((i : Nat) : Int))) ((((Tr.lf.nd (some (AV.int IntKind.i64 ((7 + K : Nat) : Int))) Tr.lf).nd none (Tr.lf.nd (some (AV.ptr (G3.key 1) 3)) Tr.lf)).nd (some (AV.ptr Ev.K.z.o.i.i 0)) ((Tr.lf.nd (some (AV.int IntKind.i64 (IntKind.i64.wrap ((((e : Nat) : Int)).tmod 5)))) Tr.lf).nd (some (AV.ptr Ev.K.z.o.i.i 0)) (Tr.lf.nd (some (AV.bool false)) Tr.lf))).nd none (((Tr.lf.nd (some (AV.int IntKind.i64 (IntKind.i64.wrap ((((i : Nat) : Int)).tmod 3)))) Tr.lf).nd (some (AV.agg [AV.int IntKind.i64 1, AV.int IntKind.i64 2, AV.str [], AV.str [], AV.bool false, AV.nils, AV.nils, AV.nils])) (Tr.lf.nd (some (AV.bool true)) Tr.lf)).nd (some (AV.ptr (G3.key 1) 0)) ((Tr.lf.nd (some (AV.int IntKind.u8 ((t : Nat) : Int))) Tr.lf).nd (some (AV.bool true)) Tr.lf)))).nd (some (AV.int IntKind.u8 ((k : Nat) : Int))) (((((Tr.lf.nd (some (AV.int IntKind.i64 ((IntKind.i64.wrap ((k : Nat) : Int)).tmod 15))) Tr.lf).nd none (Tr.lf.nd (some (AV.ptr (G3.key 1) 2)) Tr.lf)).nd (some (AV.bool false)) ((Tr.lf.nd (some (AV.int IntKind.u8 ((((e : Nat) : Int)).tmod 5))) Tr.lf).nd (some (AV.tup [AV.agg [AV.int IntKind.i64 1, AV.int IntKind.i64 2, AV.str [], AV.str [], AV.bool false, AV.nils, AV.nils, AV.nils], AV.bool true])) (Tr.lf.nd (some (AV.int IntKind.i64 ((E + 1 : Nat) : Int))) Tr.lf))).nd none (((Tr.lf.nd (some (AV.int IntKind.u8 ((((i : Nat) : Int)).tmod 3))) Tr.lf).nd (some (AV.bool false)) (Tr.lf.nd (some (AV.bool true)) Tr.lf)).nd (some (AV.int IntKind.i64 ((7 + K : Nat) : Int))) ((Tr.lf.nd (some (AV.agg [AV.int IntKind.i64 ((7 + K : Nat) : Int), AV.int IntKind.i64 100, AV.int IntKind.i64 0, AV.int IntKind.i64 ((0 + 1 : Nat) : Int), AV.int IntKind.i64 ((E + 1 : Nat) : Int), AV.int IntKind.i64 0, AV.int IntKind.i64 0, AV.int IntKind.i64 0, AV.int IntKind.i64 0, AV.str [], AV.str [], AV.str [], AV.int IntKind.i64 0, AV.nils, AV.int IntKind.i64 0, AV.str [], AV.int IntKind.i64 0, AV.nils, AV.str [], AV.str [], AV.nils, AV.nils, AV.nils, AV.str []])) Tr.lf).nd (some (AV.agg [AV.int IntKind.i64 1, AV.int IntKind.i64 2, AV.str [], AV.str [], AV.bool false, AV.nils, AV.nils, AV.nils])) (Tr.lf.nd (some (AV.agg [AV.int IntKind.i64 ((7 + K : Nat) : Int), AV.int IntKind.i64 100, AV.int IntKind.i64 ((U : Nat) : Int), AV.int IntKind.i64 ((0 + 1 : Nat) : Int), AV.int IntKind.i64 ((E + 1 : Nat) : Int), AV.int IntKind.i64 0, AV.int IntKind.i64 0, AV.int IntKind.i64 0, AV.int IntKind.i64 0, AV.str [], AV.str [], AV.str [], AV.int IntKind.i64 0, AV.nils, AV.int IntKind.i64 0, AV.str [], AV.int IntKind.i64 0, AV.nils, AV.str [], AV.str [], AV.nils, AV.nils, AV.nils, AV.str []])) Tr.lf)))).nd (some (AV.int IntKind.u8 ((e : Nat) : Int))) ((((Tr.lf.nd (some (AV.int IntKind.i64 ((7 + K : Nat) : Int))) Tr.lf).nd none (Tr.lf.nd (some (AV.ptr (G3.key 1) 3)) Tr.lf)).nd (some (AV.ptr (G3.key 0) 0)) ((Tr.lf.nd (some (AV.int IntKind.i64 ((E + 1 : Nat) : Int))) Tr.lf).nd (some (AV.ptr Ev.K.z.o.o.i 0)) (Tr.lf.nd (some (AV.bool false)) Tr.lf))).nd none (((Tr.lf.nd (some (AV.int IntKind.i64 ((0 + 1 : Nat) : Int))) Tr.lf).nd (some (AV.slice (hp0.key 0) 0 1 8 true 1)) (Tr.lf.nd (some (AV.ptr (G3.key 1) 3)) Tr.lf)).nd none ((Tr.lf.nd (some (AV.int IntKind.u8 ((((t : Nat) : Int)).tmod 2))) Tr.lf).nd (some (AV.int IntKind.u8 ((k : Nat) : Int))) Tr.lf)))))
  (G3.ext [Blk.row true 8 [[AV.int IntKind.i64 1, AV.int IntKind.i64 2, AV.str [], AV.str [], AV.bool false, AV.nils, AV.nils, AV.nils]], Blk.row true 24 [[AV.int IntKind.i64 ((7 + K : Nat) : Int), AV.int IntKind.i64 100, AV.int IntKind.i64 ((U : Nat) : Int), AV.int IntKind.i64 ((0 + 1 : Nat) : Int), AV.int IntKind.i64 ((E + 1 : Nat) : Int), AV.int IntKind.i64 0, AV.int IntKind.i64 0, AV.int IntKind.i64 0, AV.int IntKind.i64 0, AV.str [], AV.str [], AV.str [], AV.int IntKind.i64 0, AV.nils, AV.int IntKind.i64 0, AV.str [], AV.int IntKind.i64 0, AV.nils, AV.str [], AV.str [], AV.nils, AV.nils, AV.nils, AV.str []]]])
noncomputable def tB (k i e t K I E U : Nat) : Bool := evCL EE 100000 Ev.K.z.o.o.i 10 [AV.ptr Ev.K.z.o.i.i 0, AV.agg [AV.int IntKind.i64 ((7 + K : Nat) : Int), AV.int IntKind.i64 100, AV.int IntKind.i64 ((U : Nat) : Int), AV.int IntKind.i64 ((I + 1 + 1 : Nat) : Int), AV.int IntKind.i64 ((E + 1 : Nat) : Int), AV.int IntKind.i64 0, AV.int IntKind.i64 0, AV.int IntKind.i64 0, AV.int IntKind.i64 0, AV.str [], AV.str [], AV.str [], AV.int IntKind.i64 0, AV.nils, AV.int IntKind.i64 0, AV.str [], AV.int IntKind.i64 0, AV.nils, AV.str [], AV.str [], AV.nils, AV.nils, AV.nils, AV.str []]] (some Ev.K.z.i.i.i.i.o) [It.reg [], It.code rest5] ((((((Tr.lf.nd (some (AV.int IntKind.i64 (IntKind.i64.wrap ((k : Nat) : Int)))) Tr.lf).nd none (Tr.lf.nd (some (AV.int IntKind.i64 ((U : Nat) : Int))) Tr.lf)).nd none ((Tr.lf.nd (some (AV.int IntKind.u8 ((e : Nat) : Int))) Tr.lf).nd (some (AV.ptr Ev.K.z.o.i.i 0)) (Tr.lf.nd (some (AV.tup [])) Tr.lf))).nd (some (AV.int IntKind.u8 ((t : Nat) : Int))) (((Tr.lf.nd (some (AV.int IntKind.u8 ((i : Nat) : Int))) Tr.lf).nd (some (AV.bool true)) (Tr.lf.nd (some (AV.int IntKind.i64 ((I + 1 + 1 : Nat) : Int))) Tr.lf)).nd (some (AV.bool true)) ((Tr.lf.nd (some (AV.agg [AV.int IntKind.i64 ((I + 1 + 1 : Nat) : Int), AV.int IntKind.i64 ((E + 1 : Nat) : Int), AV.int IntKind.i64 0, AV.int IntKind.i64 0, AV.int IntKind.i64 0])) Tr.lf).nd (some (AV.tup [AV.agg [AV.int IntKind.i64 1, AV.int IntKind.i64 2, AV.str [], AV.str [], AV.bool false, AV.nils, AV.nils, AV.nils], AV.bool true])) (Tr.lf.nd (some (AV.ptr Ev.K.z.o.i.i 0)) Tr.lf)))).nd (some (AV.int IntKind.u8 ((i : Nat) : Int))) ((((Tr.lf.nd (some (AV.int IntKind.i64 ((7 + K : Nat) : Int))) Tr.lf).nd none (Tr.lf.nd (some (AV.ptr (G3.key 1) 3)) Tr.lf)).nd (some (AV.ptr Ev.K.z.o.i.i 0)) ((Tr.lf.nd (some (AV.int IntKind.i64 (IntKind.i64.wrap ((((e : Nat) : Int)).tmod 5)))) Tr.lf).nd (some (AV.ptr Ev.K.z.o.i.i 0)) (Tr.lf.nd (some (AV.tup [])) Tr.lf))).nd none (((Tr.lf.nd (some (AV.int IntKind.i64 (IntKind.i64.wrap ((((i : Nat) : Int)).tmod 3)))) Tr.lf).nd (some (AV.agg [AV.int IntKind.i64 1, AV.int IntKind.i64 2, AV.str [], AV.str [], AV.bool false, AV.nils, AV.nils, AV.nils])) (Tr.lf.nd (some (AV.bool false)) Tr.lf)).nd (some (AV.ptr (G3.key 1) 0)) ((Tr.lf.nd (some (AV.int IntKind.u8 ((t : Nat) : Int))) Tr.lf).nd (some (AV.bool true)) Tr.lf)))).nd (some (AV.int IntKind.u8 ((k : Nat) : Int))) (((((Tr.lf.nd (some (AV.int IntKind.i64 ((IntKind.i64.wrap ((k : Nat) : Int)).tmod 15))) Tr.lf).nd none (Tr.lf.nd (some (AV.ptr (G3.key 1) 2)) Tr.lf)).nd (some (AV.bool false)) ((Tr.lf.nd (some (AV.int IntKind.u8 ((((e : Nat) : Int)).tmod 5))) Tr.lf).nd (some (AV.tup [AV.agg [AV.int IntKind.i64 1, AV.int IntKind.i64 2, AV.str [], AV.str [], AV.bool false, AV.nils, AV.nils, AV.nils], AV.bool true])) (Tr.lf.nd (some (AV.tup [])) Tr.lf))).nd none (((Tr.lf.nd (some (AV.int IntKind.u8 ((((i : Nat) : Int)).tmod 3))) Tr.lf).nd (some (AV.bool false)) (Tr.lf.nd (some (AV.bool false)) Tr.lf)).nd (some (AV.int IntKind.i64 ((7 + K : Nat) : Int))) ((Tr.lf.nd (some (AV.agg [AV.int IntKind.i64 ((7 + K : Nat) : Int), AV.int IntKind.i64 100, AV.int IntKind.i64 0, AV.int IntKind.i64 ((I + 1 + 1 : Nat) : Int), AV.int IntKind.i64 ((E + 1 : Nat) : Int), AV.int IntKind.i64 0, AV.int IntKind.i64 0, AV.int IntKind.i64 0, AV.int IntKind.i64 0, AV.str [], AV.str [], AV.str [], AV.int IntKind.i64 0, AV.nils, AV.int IntKind.i64 0, AV.str [], AV.int IntKind.i64 0, AV.nils, AV.str [], AV.str [], AV.nils, AV.nils, AV.nils, AV.str []])) Tr.lf).nd (some (AV.agg [AV.int IntKind.i64 1, AV.int IntKind.i64 2, AV.str [], AV.str [], AV.bool false, AV.nils, AV.nils, AV.nils])) (Tr.lf.nd (some (AV.agg [AV.int IntKind.i64 ((7 + K : Nat) : Int), AV.int IntKind.i64 100, AV.int IntKind.i64 ((U : Nat) : Int), AV.int IntKind.i64 ((I + 1 + 1 : Nat) : Int), AV.int IntKind.i64 ((E + 1 : Nat) : Int), AV.int IntKind.i64 0, AV.int IntKind.i64 0, AV.int IntKind.i64 0, AV.int IntKind.i64 0, AV.str [], AV.str [], AV.str [], AV.int IntKind.i64 0, AV.nils, AV.int IntKind.i64 0, AV.str [], AV.int IntKind.i64 0, AV.nils, AV.str [], AV.str [], AV.nils, AV.nils, AV.nils, AV.str []])) Tr.lf)))).nd (some (AV.int IntKind.u8 ((e : Nat) : Int))) ((((Tr.lf.nd (some (AV.int IntKind.i64 ((7 + K : Nat) : Int))) Tr.lf).nd none (Tr.lf.nd (some (AV.ptr (G3.key 1) 3)) Tr.lf)).nd (some (AV.ptr (G3.key 0) 0)) ((Tr.lf.nd (some (AV.int IntKind.i64 ((E + 1 : Nat) : Int))) Tr.lf).nd (some (AV.ptr Ev.K.z.o.o.i 0)) (Tr.lf.nd (some (AV.bool false)) Tr.lf))).nd none (((Tr.lf.nd (some (AV.int IntKind.i64 ((I + 1 + 1 : Nat) : Int))) Tr.lf).nd (some (AV.slice (hp0.key 0) 0 1 8 true 1)) (Tr.lf.nd (some (AV.tup [])) Tr.lf)).nd none ((Tr.lf.nd (some (AV.int IntKind.u8 ((((t : Nat) : Int)).tmod 2))) Tr.lf).nd (some (AV.int IntKind.u8 ((k : Nat) : Int))) Tr.lf)))))
  (G3.ext [Blk.row true 8 [[AV.int IntKind.i64 1, AV.int IntKind.i64 2, AV.str [], AV.str [], AV.bool false, AV.nils, AV.nils, AV.nils]], Blk.row true 24 [[AV.int IntKind.i64 ((7 + K : Nat) : Int), AV.int IntKind.i64 100, AV.int IntKind.i64 ((U : Nat) : Int), AV.int IntKind.i64 ((I + 1 + 1 : Nat) : Int), AV.int IntKind.i64 ((E + 1 : Nat) : Int), AV.int IntKind.i64 0, AV.int IntKind.i64 0, AV.int IntKind.i64 0, AV.int IntKind.i64 0, AV.str [], AV.str [], AV.str [], AV.int IntKind.i64 0, AV.nils, AV.int IntKind.i64 0, AV.str [], AV.int IntKind.i64 0, AV.nils, AV.str [], AV.str [], AV.nils, AV.nils, AV.nils, AV.str []]]])
/-- 0, 2, 3, 4 -/
def n1 (j : Nat) : Nat := Nat.rec (motive := fun _ => Nat) 0 (fun i _ => i + 2) j
end Go.Proofs
/- NodeStray: reckoned. -/

set_option linter.all false
set_option maxRecDepth 100000
namespace Go.Proofs
open Go Go.Ev
theorem tA_0 (k i e t : Nat) : (allN 5 fun r => allN 4 fun j => tA k i e t (0 + r) (n1 j) 0) = true := by kernel_rfl
theorem tB_0 (k i e t : Nat) : (allN 2 fun r => allN 2 fun I => allN 5 fun E => tB k i e t (0 + r) I E 0) = true := by kernel_rfl
theorem tB_8 (k i e t : Nat) : (allN 2 fun r => allN 2 fun I => allN 5 fun E => tB k i e t (8 + r) I E 0) = true := by kernel_rfl
theorem tB_u (k i e t K I E : Nat) : tB k i e t K I E 1 = true := by kernel_rfl
end Go.Proofs
/- NodeStray: reckoned. -/

set_option linter.all false
set_option maxRecDepth 100000
namespace Go.Proofs
open Go Go.Ev
theorem tA_5 (k i e t : Nat) : (allN 5 fun r => allN 4 fun j => tA k i e t (5 + r) (n1 j) 0) = true := by kernel_rfl
theorem tB_2 (k i e t : Nat) : (allN 2 fun r => allN 2 fun I => allN 5 fun E => tB k i e t (2 + r) I E 0) = true := by kernel_rfl
theorem tB_10 (k i e t : Nat) : (allN 2 fun r => allN 2 fun I => allN 5 fun E => tB k i e t (10 + r) I E 0) = true := by kernel_rfl
end Go.Proofs
/- NodeStray: reckoned. -/

set_option linter.all false
set_option maxRecDepth 100000
namespace Go.Proofs
open Go Go.Ev
theorem tA_10 (k i e t : Nat) : (allN 5 fun r => allN 4 fun j => tA k i e t (10 + r) (n1 j) 0) = true := by kernel_rfl
theorem tB_4 (k i e t : Nat) : (allN 2 fun r => allN 2 fun I => allN 5 fun E => tB k i e t (4 + r) I E 0) = true := by kernel_rfl
theorem tB_12 (k i e t : Nat) : (allN 2 fun r => allN 2 fun I => allN 5 fun E => tB k i e t (12 + r) I E 0) = true := by kernel_rfl
end Go.Proofs
/- NodeStray: reckoned. -/

set_option linter.all false
set_option maxRecDepth 100000
namespace Go.Proofs
open Go Go.Ev
theorem tA_u (k i e t K E : Nat) : tA k i e t K E 1 = true := by kernel_rfl
theorem tB_6 (k i e t : Nat) : (allN 2 fun r => allN 2 fun I => allN 5 fun E => tB k i e t (6 + r) I E 0) = true := by kernel_rfl
theorem tB_14 (k i e t : Nat) : (allN 1 fun r => allN 2 fun I => allN 5 fun E => tB k i e t (14 + r) I E 0) = true := by kernel_rfl
end Go.Proofs
/- NodeStray: walked. -/




set_option linter.all false
set_option maxRecDepth 100000
namespace Go.Proofs
open Go Go.Ev
theorem f5_ok {k i e t : Nat} (hk : k ≤ 255) (hi : i ≤ 255) (he : e ≤ 255) (ht : t ≤ 255) : FnOk Tryz.prog 5 [.int .u8 k, .int .u8 i, .int .u8 e, .int .u8 t] hp0 fun r _ => r = .bool true := by
  refine FnOk.of_WW Tryz.func5 rfl C5ok R5ok EE good_EE ?_
  simp only [go_sem, C5]
  refine CL.of known_ok ?_
  rintro _ G' ⟨rfl, hG⟩; rw [hG]; clear hG
  simp only [go_sem]
  refine CL.of new_ok ?_
  rintro _ M1 ⟨rfl, h1⟩
  have c2 := hold_ok
  rw [← h1] at c2
  refine WW.nil ?_
  simp only [go_sem]
  rw [Heap.ext_nil]
  refine CL.of c2 ?_
  rintro _ M2 ⟨rfl, h2⟩
  have c3 := get_ok
  rw [← h2] at c3
  refine WW.nil ?_
  simp only [go_sem]
  rw [Heap.ext_nil]
  refine CL.of c3 ?_
  rintro _ M3 ⟨rfl, h3⟩
  clear c2 c3 h1 h2
  refine WW.nil ?_
  simp only [go_sem]
  obtain ⟨K, hK⟩ : ∃ K, K = k % 15 := ⟨_, rfl⟩
  obtain ⟨I, hI⟩ : ∃ I, I = i % 3 := ⟨_, rfl⟩
  obtain ⟨E, hE⟩ : ∃ E, E = e % 5 := ⟨_, rfl⟩
  obtain ⟨U, hU⟩ : ∃ U, U = t % 2 := ⟨_, rfl⟩
  have a1 : IntKind.i64.wrap (7 + (IntKind.i64.wrap (k : Int)).tmod 15) = ((7 + K : Nat) : Int) := by
    rw [wrap_i64 (n := (k : Int)) (by omega) (by omega), Int.tmod_eq_emod_of_nonneg (by omega), wrap_i64 (by omega) (by omega)]; omega
  have a2 : IntKind.i64.wrap (IntKind.i64.wrap ((i : Int).tmod 3) + 1) = ((I + 1 : Nat) : Int) := by
    rw [Int.tmod_eq_emod_of_nonneg (by omega), wrap_i64 (n := (i : Int) % 3) (by omega) (by omega), wrap_i64 (by omega) (by omega)]; omega
  have a3 : IntKind.i64.wrap (IntKind.i64.wrap ((e : Int).tmod 5) + 1) = ((E + 1 : Nat) : Int) := by
    rw [Int.tmod_eq_emod_of_nonneg (by omega), wrap_i64 (n := (e : Int) % 5) (by omega) (by omega), wrap_i64 (by omega) (by omega)]; omega
  have a4 : IntKind.i64.wrap ((t : Int).tmod 2) = ((U : Nat) : Int) := by
    rw [Int.tmod_eq_emod_of_nonneg (by omega), wrap_i64 (n := (t : Int) % 2) (by omega) (by omega)]; omega
  rw [a1, a2, a3]
  refine CL.of (f17_ok _ _ _ _ _ _) ?_
  rintro _ G' ⟨rfl, hG⟩; rw [hG]; clear hG
  by_cases hy : I = 0 ∧ E = 1
  · obtain ⟨rfl, rfl⟩ := hy
    simp only [go_sem, toldL, a4]
  · have hE5 : E < 5 := by omega
    have hI3 : I < 3 := by omega
    have hK15 : K < 15 := by omega
    have hU2 : U < 2 := by omega
    simp only [go_sem, toldL, a4]
    clear a1 a2 a3 a4 hk hi he ht hK hI hE hU
    subst h3
    refine ⟨fun g1 => ⟨fun _ => trivial, fun g2 => ?_⟩, fun g1 => ?_⟩
    · obtain rfl : I = 0 := by omega
      clear g1 hI3
      refine CL.ev good_EE (n := 100000) (kr := Ev.K.z.o.o.i) ?_ (fun e T' H' h1 h2 => by simp only [go_sem, h2]; exact h1)
      show tA k i e t K E U = true
      rcases (by omega : U = 0 ∨ U = 1) with rfl | rfl
      · obtain ⟨j, hj, rfl⟩ : ∃ j, j < 4 ∧ E = n1 j := by
          by_cases h0 : E = 0
          · exact ⟨0, by omega, h0⟩
          · exact ⟨E - 1, by omega, by rw [show E - 1 = (E - 2) + 1 by omega]; show E = E - 2 + 2; omega⟩
        by_cases q0 : K < 5
        · obtain ⟨r, hr, rfl⟩ : ∃ r, r < 5 ∧ K = 0 + r := ⟨K - 0, by omega, by omega⟩
          exact allN2 (tA_0 k i e t) r hr j hj
        by_cases q1 : K < 10
        · obtain ⟨r, hr, rfl⟩ : ∃ r, r < 5 ∧ K = 5 + r := ⟨K - 5, by omega, by omega⟩
          exact allN2 (tA_5 k i e t) r hr j hj
        obtain ⟨r, hr, rfl⟩ : ∃ r, r < 5 ∧ K = 10 + r := ⟨K - 10, by omega, by omega⟩
        exact allN2 (tA_10 k i e t) r hr j hj
      · exact tA_u k i e t K E
    · obtain ⟨I, rfl⟩ : ∃ I', I = I' + 1 := ⟨I - 1, by omega⟩
      have hI2 : I < 2 := by omega
      clear hI3 hy g1
      refine CL.ev good_EE (n := 100000) (kr := Ev.K.z.o.o.i) ?_ (fun e T' H' h1 h2 => by simp only [go_sem, h2]; exact h1)
      show tB k i e t K I E U = true
      rcases (by omega : U = 0 ∨ U = 1) with rfl | rfl
      · clear hU2
        by_cases q0 : K < 2
        · obtain ⟨r, hr, rfl⟩ : ∃ r, r < 2 ∧ K = 0 + r := ⟨K - 0, by omega, by omega⟩
          exact allN3 (tB_0 k i e t) r hr I hI2 E hE5
        by_cases q1 : K < 4
        · obtain ⟨r, hr, rfl⟩ : ∃ r, r < 2 ∧ K = 2 + r := ⟨K - 2, by omega, by omega⟩
          exact allN3 (tB_2 k i e t) r hr I hI2 E hE5
        by_cases q2 : K < 6
        · obtain ⟨r, hr, rfl⟩ : ∃ r, r < 2 ∧ K = 4 + r := ⟨K - 4, by omega, by omega⟩
          exact allN3 (tB_4 k i e t) r hr I hI2 E hE5
        by_cases q3 : K < 8
        · obtain ⟨r, hr, rfl⟩ : ∃ r, r < 2 ∧ K = 6 + r := ⟨K - 6, by omega, by omega⟩
          exact allN3 (tB_6 k i e t) r hr I hI2 E hE5
        by_cases q4 : K < 10
        · obtain ⟨r, hr, rfl⟩ : ∃ r, r < 2 ∧ K = 8 + r := ⟨K - 8, by omega, by omega⟩
          exact allN3 (tB_8 k i e t) r hr I hI2 E hE5
        by_cases q5 : K < 12
        · obtain ⟨r, hr, rfl⟩ : ∃ r, r < 2 ∧ K = 10 + r := ⟨K - 10, by omega, by omega⟩
          exact allN3 (tB_10 k i e t) r hr I hI2 E hE5
        by_cases q6 : K < 14
        · obtain ⟨r, hr, rfl⟩ : ∃ r, r < 2 ∧ K = 12 + r := ⟨K - 12, by omega, by omega⟩
          exact allN3 (tB_12 k i e t) r hr I hI2 E hE5
        obtain ⟨r, hr, rfl⟩ : ∃ r, r < 1 ∧ K = 14 + r := ⟨K - 14, by omega, by omega⟩
        exact allN3 (tB_14 k i e t) r hr I hI2 E hE5
      · exact tB_u k i e t K I E
end Go.Proofs
