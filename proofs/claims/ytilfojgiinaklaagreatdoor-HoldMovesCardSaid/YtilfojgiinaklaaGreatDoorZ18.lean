/- errors.Is, where both are nil or numbers of a kind: by its contract. Written after the kit's worked text SentryIs. -/
import Derived.Test.YtilfojgiinaklaaGreatDoorZ17
import Derived.WalkKit
import Derived.LaidEql
import Derived.Lib.IfaceEq
import Derived.Stop.Asserts
import Derived.Stop.IfaceNil
import Derived.RowKitTokens
set_option linter.all false
namespace Go.Proofs
open Go.RowKit Go.Extern.Stop Go.Stop Go.Extern
theorem Tryz.isTypeOf (v : Value) (w : World) : (Extern.ReflectliteType.typeOf #[.iface 63 v]).run Tryz.prog w = .ok (.iface 193 (.agg #[.pointer (some ⟨1, 63, none⟩)])) w := by kernel_rfl
theorem Tryz.isComparable (w : World) : ((Extern.ReflectliteType.method fun t => do Rtype.noPackHeld "Comparable" t; (fun a => Value.bool a.comparable) <$> typeInfo t) #[.agg #[.pointer (some ⟨1, 63, none⟩)]]).run Tryz.prog w = .ok (.bool true) w := by kernel_rfl
theorem Tryz.isMethodComparable (v : Value) (w : World) : (Go.method 415 193 v "Comparable").run Tryz.prog w = .ok (260, v) w := by kernel_rfl
theorem Tryz.isComp : (Tryz.prog.info? 63).map (·.comparable) = some true := by kernel_rfl
theorem Tryz.noIs (v : Value) (xT : TypeId) (w : World) : (Instr.typeAssert (.iface 63 v) xT 205 true).run Tryz.prog w = .ok (.tuple #[.nilIface, .bool false]) w := run_typeAssert_lacksB Tryz.underlying205 (by kernel_rfl) (by kernel_rfl) v xT w
theorem Tryz.noUnwrap (v : Value) (xT : TypeId) (w : World) : (Instr.typeAssert (.iface 63 v) xT 200 true).run Tryz.prog w = .ok (.tuple #[.nilIface, .bool false]) w := run_typeAssert_lacksB Tryz.underlying200 (by kernel_rfl) (by kernel_rfl) v xT w
theorem Tryz.noUnwraps (v : Value) (xT : TypeId) (w : World) : (Instr.typeAssert (.iface 63 v) xT 202 true).run Tryz.prog w = .ok (.tuple #[.nilIface, .bool false]) w := run_typeAssert_lacksB Tryz.underlying202 (by kernel_rfl) (by kernel_rfl) v xT w
/-- errors.Is of two numbers -/
theorem is_num (a b : Int) (w : World) : Calls Tryz.prog 43 #[.iface 63 (.int .i64 a), .iface 63 (.int .i64 b)] w fun e w' => e = .returned (.bool (a == b)) ∧ w' = w := by
  have h61 := @run_callFunc_extern Tryz.prog 96 _ Extern.ReflectliteType.typeOf Tryz.func96 (by kernel_rfl) (by kernel_rfl) (by kernel_rfl) (by kernel_rfl)
  have h144 := @run_callFunc_extern Tryz.prog 260 _ (Extern.ReflectliteType.method fun t => do Rtype.noPackHeld "Comparable" t; pure (.bool (← typeInfo t).comparable)) Tryz.func260 (by kernel_rfl) (by kernel_rfl) (by kernel_rfl) (by kernel_rfl)
  have tT := Tryz.isTypeOf
  have cT := Tryz.isComparable
  have mR := Tryz.isMethodComparable
  have n1 := Tryz.noIs
  have n2 := Tryz.noUnwrap
  have n3 := Tryz.noUnwraps
  have heq := Go.Lib.run_eql_iface_int (P := Tryz.prog) (t := 35) (k := .i64) w a b Tryz.underlying35 Tryz.isComp Tryz.underlying63
  by_cases hab : a = b
  · subst hab
    rw [beq_self_eq_true] at heq ⊢
    go_enter Tryz.func43, Tryz.ntmps43
    go_wp2
    refine wp_loop_rounds 1 ?_
    rw [rounds_succ]
    go_wp2
    go_ret
    exact ⟨rfl, rfl⟩
  · rw [show (a == b) = false from beq_false_of_ne hab] at heq ⊢
    go_enter Tryz.func43, Tryz.ntmps43
    go_wp2
    refine wp_loop_rounds 1 ?_
    rw [rounds_succ]
    go_wp2
    go_ret
    exact ⟨rfl, rfl⟩
theorem is_nil (b : Int) (w : World) : Calls Tryz.prog 43 #[.nilIface, .iface 63 (.int .i64 b)] w fun e w' => e = .returned (.bool false) ∧ w' = w := by
  have hn := run_eql_iface_nil_left (P := Tryz.prog) w 63 (.int .i64 b) Tryz.underlying35
  go_enter Tryz.func43, Tryz.ntmps43
  go_wp2
  go_ret
  exact ⟨rfl, rfl⟩
end Go.Proofs
/- errors.As, where the error is a number of a kind and a number of that kind is asked for: by its contract. Turned by a program from the kit's worked text ToyasAs. -/

set_option linter.all false
namespace Go.Proofs
open Go.RowKit Go.Extern.Stop Go.Stop Go.Extern

/-- errors.As(nil, target). -/
theorem as_nil (t : Value) (w : World) :
    Calls Tryz.prog 42 #[.nilIface, t] w fun e w' => e = .returned (.bool false) ∧ w' = w := by
  go_enter Tryz.func42, Tryz.ntmps42
  go_wp2
  go_ret
  exact ⟨rfl, rfl⟩

/-! ### CLOSED FACTS ON THE MODEL's ENTRIES FOR internal/reflectlite, at this program's types: 25: *p.E · 27: **p.E · 23: error · 45: reflectlite's rtype · 1: how many package-level variables the dump has -/
theorem Tryz.as_valueOf27 (t : Addr) (w : World) : (ReflectliteValue.unpack (.iface 87 (.pointer (some t)))).run Tryz.prog w
    = .ok (.agg #[.pointer (some ⟨1, 87, none⟩), .pointer (some ⟨w.heap.size, 0, none⟩), .int .u64 150]) (w.alloc (.cells #[.pointer (some t)] 87)) := by kernel_rfl
theorem Tryz.as_type27 (a : Addr) (w : World) : (ReflectliteValue.methodAny (ReflectliteValue.valueError "reflectlite.Value.Type" 0) (fun t _ _ _ => ReflectliteType.toType t) #[.agg #[.pointer (some ⟨1, 87, none⟩), .pointer (some a), .int .u64 150]]).run Tryz.prog w
    = .ok (.iface 193 (.agg #[.pointer (some ⟨1, 87, none⟩)])) w := by kernel_rfl
theorem Tryz.as_methodKind (h : Value) (w : World) : (Go.method 415 193 (.agg #[h]) "Kind").run Tryz.prog w = .ok (251, h) w := by kernel_rfl
theorem Tryz.as_kind27 (w : World) : ((ReflectliteType.abiMethod fun t => (fun a : Nat => Value.int IntKind.u8 (a : Int)) <$> Rtype.kind t) #[.pointer (some ⟨1, 87, none⟩)]).run Tryz.prog w = .ok (.int .u8 22) w := by kernel_rfl
theorem Tryz.as_kind25 (w : World) : ((ReflectliteType.abiMethod fun t => (fun a : Nat => Value.int IntKind.u8 (a : Int)) <$> Rtype.kind t) #[.pointer (some ⟨1, 63, none⟩)]).run Tryz.prog w = .ok (.int .u8 2) w := by kernel_rfl

/-! ### THE ENTRIES THAT READ OR WRITE MEMORY: laws with a premise on the cell (after Derived/Lib/ReflectliteSlice.lean's manner: each unfolding a lemma of its own, by rfl) -/
theorem rlm (z : Sem Value) (f : TypeId → Addr → Nat → Nat → Sem Value) (v : Value) :
    ReflectliteValue.method z f #[v] = (do match ← ReflectliteValue.parts v with | none => z | some (t, a, fl) => f t a fl (fl % 32)) := rfl
theorem Tryz.as_parts27 (a : Addr) (w : World) : (ReflectliteValue.parts (.agg #[.pointer (some ⟨1, 87, none⟩), .pointer (some a), .int .u64 150])).run Tryz.prog w = .ok (some (87, a, 150)) w := by kernel_rfl
/-- (Value).IsNil at the Value of a **p.E that is not nil. -/
theorem Tryz.as_isNil27 (a p : Addr) (W : World) (ha : W.cell? a = some (.pointer (some p))) :
    (ReflectliteValue.method (ReflectliteValue.valueError "reflectlite.Value.IsNil" 0) ReflectliteValue.isNil #[.agg #[.pointer (some ⟨1, 87, none⟩), .pointer (some a), .int .u64 150]]).run Tryz.prog W = .ok (.bool false) W := by
  rw [rlm]
  simp only [Sem.run_bind, Tryz.as_parts27, Result.andThen]
  simp [ReflectliteValue.isNil, loadVar, isAgg, underlying, Tryz.underlying87, ha, Result.andThen]

theorem Tryz.as_methodElem (h : Value) (w : World) : (Go.method 415 193 (.agg #[h]) "Elem").run Tryz.prog w = .ok (261, .agg #[h]) w := by kernel_rfl
theorem Tryz.as_methodImplements (h : Value) (w : World) : (Go.method 415 193 (.agg #[h]) "Implements").run Tryz.prog w = .ok (262, .agg #[h]) w := by kernel_rfl
theorem Tryz.as_methodAssignableTo (h : Value) (w : World) : (Go.method 415 193 (.agg #[h]) "AssignableTo").run Tryz.prog w = .ok (259, .agg #[h]) w := by kernel_rfl
theorem Tryz.as_elem27 (w : World) : (ReflectliteType.method ReflectliteType.elem #[.agg #[.pointer (some ⟨1, 87, none⟩)]]).run Tryz.prog w = .ok (.iface 193 (.agg #[.pointer (some ⟨1, 63, none⟩)])) w := by kernel_rfl
theorem Tryz.as_implements25 (w : World) : (ReflectliteType.relation "Implements" ReflectliteType.implements_ #[.agg #[.pointer (some ⟨1, 63, none⟩)], .iface 193 (.agg #[.pointer (some ⟨1, 35, none⟩)])]).run Tryz.prog w = .ok (.bool true) w := by kernel_rfl
theorem Tryz.as_typeOf25 (v : Value) (w : World) : (ReflectliteType.typeOf #[.iface 63 v]).run Tryz.prog w = .ok (.iface 193 (.agg #[.pointer (some ⟨1, 63, none⟩)])) w := by kernel_rfl
theorem Tryz.as_assignable25 (w : World) : (ReflectliteType.relation "AssignableTo" ReflectliteType.assignableTo #[.agg #[.pointer (some ⟨1, 63, none⟩)], .iface 193 (.agg #[.pointer (some ⟨1, 63, none⟩)])]).run Tryz.prog w = .ok (.bool true) w := by kernel_rfl
theorem Tryz.as_valueOf25 (e : Int) (w : World) : (ReflectliteValue.unpack (.iface 63 (.int .i64 e))).run Tryz.prog w
    = .ok (.agg #[.pointer (some ⟨1, 63, none⟩), .pointer (some ⟨w.heap.size, 0, none⟩), .int .u64 130]) (w.alloc (.cells #[.int .i64 e] 63)) := by kernel_rfl

theorem Tryz.as_elemOf27 (w : World) : (Rtype.elem? 87).run Tryz.prog w = .ok (some 63) w := by kernel_rfl
theorem Tryz.as_mk25 (p : Addr) (w : World) : (ReflectliteValue.mk 63 p ReflectliteValue.flagAddr).run Tryz.prog w = .ok (.agg #[.pointer (some ⟨1, 63, none⟩), .pointer (some p), .int .u64 386]) w := by kernel_rfl
/-- (Value).Elem at the Value of a **p.E that is not nil: the Value of the *p.E variable that it points to, addressable. -/
theorem Tryz.as_elemV27 (a p : Addr) (W : World) (ha : W.cell? a = some (.pointer (some p))) :
    (ReflectliteValue.method (ReflectliteValue.valueError "reflectlite.Value.Elem" 0) ReflectliteValue.elem #[.agg #[.pointer (some ⟨1, 87, none⟩), .pointer (some a), .int .u64 150]]).run Tryz.prog W
      = .ok (.agg #[.pointer (some ⟨1, 63, none⟩), .pointer (some p), .int .u64 386]) W := by
  rw [rlm]
  simp only [Sem.run_bind, Tryz.as_parts27, Result.andThen]
  simp [ReflectliteValue.elem, loadVar, isAgg, underlying, Tryz.underlying87, ha, Result.andThen, Tryz.as_elemOf27, Tryz.as_mk25]
theorem rls (v x : Value) : ReflectliteValue.set #[v, x] = (do
    let (some (dst, a, fl), some (src, b, _)) := (← ReflectliteValue.parts v, ← ReflectliteValue.parts x)
      | unsupported (.noEntry "extern/(internal/reflectlite.Value).Set.zeroValue")
    if fl / ReflectliteValue.flagAddr % 2 == 0 then unsupported (.noEntry "extern/(internal/reflectlite.Value).Set.unaddressable")
    let val ← loadVar src b
    if ← Rtype.directlyAssignable dst src then storeVar dst a val
    else if ← Rtype.implements dst src then
      if (← Rtype.kind src) == 20 then
        match val with
        | .nilIface => unsupported (.noEntry "extern/reflectlite: a nil value of one interface type handed on as a value of another")
        | _ => storeVar dst a val
      else storeVar dst a (.iface src val)
    else panicString ("reflectlite.Set: value of type " ++ (← Rtype.spelt src) ++ " is not assignable to type " ++ (← Rtype.spelt dst))
    pure (.tuple #[])) := rfl
theorem Tryz.as_parts25a (a : Addr) (w : World) : (ReflectliteValue.parts (.agg #[.pointer (some ⟨1, 63, none⟩), .pointer (some a), .int .u64 386])).run Tryz.prog w = .ok (some (63, a, 386)) w := by kernel_rfl
theorem Tryz.as_parts25 (a : Addr) (w : World) : (ReflectliteValue.parts (.agg #[.pointer (some ⟨1, 63, none⟩), .pointer (some a), .int .u64 130])).run Tryz.prog w = .ok (some (63, a, 130)) w := by kernel_rfl
theorem Tryz.as_direct25 (w : World) : (Rtype.directlyAssignable 63 63).run Tryz.prog w = .ok true w := by kernel_rfl
/-- (Value).Set: the *p.E variable at 'ta' gets what the Value's own variable 'b' holds. -/
theorem Tryz.as_set25 (ta b : Addr) (e : Int) (old : Value) (W : World) (hb : W.cell? b = some (.int .i64 e)) (ht : W.cell? ta = some old) (hf : W.frozen? ta = false) :
    (ReflectliteValue.set #[.agg #[.pointer (some ⟨1, 63, none⟩), .pointer (some ta), .int .u64 386], .agg #[.pointer (some ⟨1, 63, none⟩), .pointer (some b), .int .u64 130]]).run Tryz.prog W
      = .ok (.tuple #[]) (W.setCell ta (.int .i64 e)) := by
  rw [rls]
  simp only [Sem.run_bind, Tryz.as_parts25a, Tryz.as_parts25, Result.andThen]
  simp [ReflectliteValue.flagAddr, loadVar, isAgg, underlying, Tryz.underlying63, hb, Result.andThen, Tryz.as_direct25, storeVar, Value.cells, storeCells, Addr.add]
  rw [run_store Tryz.prog W ta _ _ (by rfl)]
  simp [ht, hf]

set_option maxHeartbeats 4000000 in
theorem as_hit (e : Int) (t : Addr) (old : Value) (w : World) (hg : w.cell? ⟨0, 0, none⟩ = some (.iface 193 (.agg #[.pointer (some ⟨1, 35, none⟩)]))) (ht0 : w.cell? t = some old) (hf0 : w.frozen? t = false) :
    Calls Tryz.prog 42 #[.iface 63 (.int .i64 e), .iface 87 (.pointer (some t))] w fun ev w' => ev = .returned (.bool true) ∧ w' = ((((w.alloc (.cells #[.pointer (some t)] 87)).alloc (.cells #[.pointer (some ⟨1, 87, none⟩), .pointer (some ⟨w.heap.size, 0, none⟩), .int .u64 150] 135)).alloc (.cells #[.pointer (some ⟨1, 87, none⟩), .pointer (some ⟨w.heap.size, 0, none⟩), .int .u64 150] 135)).alloc (.cells #[.int .i64 e] 63)).setCell t (.int .i64 e) := by
  have h6 := @run_callFunc_extern Tryz.prog 92 _ (fun args => ReflectliteValue.unpack (args.getD 0 (.tuple #[]))) Tryz.func92 (by kernel_rfl) (by kernel_rfl) (by kernel_rfl) (by kernel_rfl)
  have h7 := @run_callFunc_extern Tryz.prog 93 _ (ReflectliteValue.methodAny (ReflectliteValue.valueError "reflectlite.Value.Type" 0) (fun t _ _ _ => ReflectliteType.toType t)) Tryz.func93 (by kernel_rfl) (by kernel_rfl) (by kernel_rfl) (by kernel_rfl)
  have h8 := @run_callFunc_extern Tryz.prog 94 _ (ReflectliteValue.method (ReflectliteValue.valueError "reflectlite.Value.IsNil" 0) ReflectliteValue.isNil) Tryz.func94 (by kernel_rfl) (by kernel_rfl) (by kernel_rfl) (by kernel_rfl)
  have h27 := @run_callFunc_extern Tryz.prog 251 _ (ReflectliteType.abiMethod fun t => do pure (.int .u8 (← Rtype.kind t))) Tryz.func251 (by kernel_rfl) (by kernel_rfl) (by kernel_rfl) (by kernel_rfl)
  have h37 := @run_callFunc_extern Tryz.prog 261 _ (ReflectliteType.method ReflectliteType.elem) Tryz.func261 (by kernel_rfl) (by kernel_rfl) (by kernel_rfl) (by kernel_rfl)
  have h38 := @run_callFunc_extern Tryz.prog 262 _ (ReflectliteType.relation "Implements" ReflectliteType.implements_) Tryz.func262 (by kernel_rfl) (by kernel_rfl) (by kernel_rfl) (by kernel_rfl)
  have h10 := @run_callFunc_extern Tryz.prog 96 _ ReflectliteType.typeOf Tryz.func96 (by kernel_rfl) (by kernel_rfl) (by kernel_rfl) (by kernel_rfl)
  have h35 := @run_callFunc_extern Tryz.prog 259 _ (ReflectliteType.relation "AssignableTo" ReflectliteType.assignableTo) Tryz.func259 (by kernel_rfl) (by kernel_rfl) (by kernel_rfl) (by kernel_rfl)
  have h11 := @run_callFunc_extern Tryz.prog 149 _ (ReflectliteValue.method (ReflectliteValue.valueError "reflectlite.Value.Elem" 0) ReflectliteValue.elem) Tryz.func149 (by kernel_rfl) (by kernel_rfl) (by kernel_rfl) (by kernel_rfl)
  have h12 := @run_callFunc_extern Tryz.prog 150 _ ReflectliteValue.set Tryz.func150 (by kernel_rfl) (by kernel_rfl) (by kernel_rfl) (by kernel_rfl)
  have tO := Tryz.as_typeOf25
  have mA := Tryz.as_methodAssignableTo
  have a25 := Tryz.as_assignable25
  have v25 := Tryz.as_valueOf25
  have f6 := Tryz.as_valueOf27
  have f7 := Tryz.as_type27
  have mK := Tryz.as_methodKind
  have mE := Tryz.as_methodElem
  have mI := Tryz.as_methodImplements
  have k27 := Tryz.as_kind27
  have k25 := Tryz.as_kind25
  have e27 := Tryz.as_elem27
  have i25 := Tryz.as_implements25
  have n8 := Tryz.as_isNil27 ⟨w.heap.size, 0, none⟩ t ((w.alloc (.cells #[.pointer (some t)] 87)).alloc (.cells #[.pointer (some ⟨1, 87, none⟩), .pointer (some ⟨w.heap.size, 0, none⟩), .int .u64 150] 135)) (by simp)
  have hlt : 0 < w.heap.size := by
    rcases Nat.eq_zero_or_pos w.heap.size with h0 | h
    · simp [World.cell?, h0] at hg
    · exact h
  have hg2 : ((w.alloc (.cells #[.pointer (some t)] 87)).alloc (.cells #[.pointer (some ⟨1, 87, none⟩), .pointer (some ⟨w.heap.size, 0, none⟩), .int .u64 150] 135)).cell? ⟨0, 0, none⟩ = some (.iface 193 (.agg #[.pointer (some ⟨1, 35, none⟩)])) := by
    rw [World.cell?_alloc_lt _ _ ⟨0, 0, none⟩ (by simp), World.cell?_alloc_lt _ _ ⟨0, 0, none⟩ hlt]; exact hg
  have htl : t.block < w.heap.size := by
    rcases Nat.lt_or_ge t.block w.heap.size with h | h
    · exact h
    · simp [World.cell?, Array.getElem?_eq_none h] at ht0
  have el := Tryz.as_elemV27 ⟨w.heap.size, 0, none⟩ t (((w.alloc (.cells #[.pointer (some t)] 87)).alloc (.cells #[.pointer (some ⟨1, 87, none⟩), .pointer (some ⟨w.heap.size, 0, none⟩), .int .u64 150] 135)).alloc (.cells #[.pointer (some ⟨1, 87, none⟩), .pointer (some ⟨w.heap.size, 0, none⟩), .int .u64 150] 135)) (by rw [World.cell?_alloc_lt _ _ ⟨w.heap.size, 0, none⟩ (by simp; omega)]; simp)
  have st := Tryz.as_set25 t ⟨w.heap.size + 1 + 1 + 1, 0, none⟩ e old ((((w.alloc (.cells #[.pointer (some t)] 87)).alloc (.cells #[.pointer (some ⟨1, 87, none⟩), .pointer (some ⟨w.heap.size, 0, none⟩), .int .u64 150] 135)).alloc (.cells #[.pointer (some ⟨1, 87, none⟩), .pointer (some ⟨w.heap.size, 0, none⟩), .int .u64 150] 135)).alloc (.cells #[.int .i64 e] 63))
    (by rw [World.cell?_alloc_at _ _ _ _ (by simp)]; rfl)
    (by rw [World.cell?_alloc_lt _ _ t (by simp; omega), World.cell?_alloc_lt _ _ t (by simp; omega), World.cell?_alloc_lt _ _ t (by simp; omega), World.cell?_alloc_lt _ _ t htl]; exact ht0)
    (by rw [World.frozen?_alloc_old _ _ t (by simp; omega), World.frozen?_alloc_old _ _ t (by simp; omega), World.frozen?_alloc_old _ _ t (by simp; omega), World.frozen?_alloc_old _ _ t (Nat.ne_of_lt htl)]; exact hf0)
  go_enter Tryz.func42, Tryz.ntmps42
  go_wp2
  refine wp_loop_rounds 1 ?_
  rw [rounds_succ]
  go_wp2
  go_ret
  exact ⟨rfl, rfl⟩
end Go.Proofs
/- An error's number: by its contract; both as triples. -/

set_option linter.all false
namespace Go.Proofs
open Go.RowKit Go.Extern.Stop Go.Stop Go.Extern
theorem code_nil (w : World) : Calls Tryz.prog 56 #[.nilIface] w fun e w' => e = .returned (.int .i64 0) ∧ Go.Ev.Grows w w' := by
  have hn : ∀ w, (binOp .eql 35 .nilIface .nilIface).run Tryz.prog w = .ok (.bool true) w := fun w => by kernel_rfl
  go_enter Tryz.func56, Tryz.ntmps56
  go_wp2
  go_ret
  exact ⟨rfl, Go.Ev.Grows.alloc _ _⟩
set_option maxHeartbeats 4000000 in
theorem code_num (n : Int) (w : World) (hg : w.cell? ⟨0, 0, none⟩ = some (.iface 193 (.agg #[.pointer (some ⟨1, 35, none⟩)]))) : Calls Tryz.prog 56 #[.iface 63 (.int .i64 n)] w fun e w' => e = .returned (.int .i64 n) ∧ Go.Ev.Grows w w' := by
  have hlt : 0 < w.heap.size := by
    rcases Nat.eq_zero_or_pos w.heap.size with h0 | h
    · simp [World.cell?, h0] at hg
    · exact h
  have hn : ∀ w, (binOp .eql 35 (.iface 63 (.int .i64 n)) .nilIface).run Tryz.prog w = .ok (.bool false) w := fun w => by kernel_rfl
  have hgA : (w.alloc (.cells #[.int .i64 0] 63)).cell? ⟨0, 0, none⟩ = some (.iface 193 (.agg #[.pointer (some ⟨1, 35, none⟩)])) := by
    rw [World.cell?_alloc_lt _ _ ⟨0, 0, none⟩ hlt]; exact hg
  have htA : (w.alloc (.cells #[.int .i64 0] 63)).cell? ⟨w.heap.size, 0, none⟩ = some (.int .i64 0) := by simp
  have hfA : (w.alloc (.cells #[.int .i64 0] 63)).frozen? ⟨w.heap.size, 0, none⟩ = false := by simp
  go_enter Tryz.func56, Tryz.ntmps56
  go_wp2_with (first | (go_at_call 42; refine (as_hit n _ (.int .i64 0) _ hgA htA hfA).mono ?_; rintro e w' ⟨rfl, rfl⟩))
  go_ret
  refine ⟨rfl, ?_⟩
  exact ((((Go.Ev.Grows.alloc _ _).trans (Go.Ev.Grows.alloc _ _)).trans (Go.Ev.Grows.alloc _ _)).trans (Go.Ev.Grows.alloc _ _)).trans (Go.Ev.Grows.alloc _ _)
end Go.Proofs
namespace Go.Proofs
open Go Go.Ev
/-- an error: none, or a number -/
def errV : Option Int → AV
  | none => .nili
  | some n => .iface 63 (.int .i64 n)
theorem errV_inv {φ : Phi} {e : Option Int} {v : Value} (h : VRel Tryz.prog φ (errV e) v) : v = (match e with | none => .nilIface | some n => .iface 63 (.int .i64 n)) := by
  cases e with
  | none => cases h; rfl
  | some n => cases h with | iface _ _ v' h => cases h; rfl
theorem one_arg {φ : Phi} {a : AV} {args : Array Value} (h : VRels Tryz.prog φ [a] args.toList) : ∃ v, args = #[v] ∧ VRel Tryz.prog φ a v := by
  cases hl : args.toList with
  | nil => rw [hl] at h; cases h
  | cons v l =>
    rw [hl] at h
    cases h with
    | cons _ _ _ _ h1 h2 =>
      cases h2
      exact ⟨v, by rw [← Array.toArray_toList (xs := args), hl], h1⟩
theorem two_args {φ : Phi} {a b : AV} {args : Array Value} (h : VRels Tryz.prog φ [a, b] args.toList) : ∃ v u, args = #[v, u] ∧ VRel Tryz.prog φ a v ∧ VRel Tryz.prog φ b u := by
  cases hl : args.toList with
  | nil => rw [hl] at h; cases h
  | cons v l =>
    rw [hl] at h
    cases h with
    | cons _ _ _ _ h1 h2 =>
      cases h2 with
      | cons _ _ u _ h3 h4 =>
        cases h4
        exact ⟨v, u, by rw [← Array.toArray_toList (xs := args), hl], h1, h3⟩
variable {H : Heap}
theorem f43_ok (a : Option Int) (b : Int) : FnOk Tryz.prog 43 [errV a, .iface 63 (.int .i64 b)] H fun r G => r = .bool (decide (a = some b)) ∧ G = H := by
  refine FnOk.of_calls fun φ w args' ha hw => ?_
  obtain ⟨v, u, rfl, h1, h2⟩ := two_args ha
  have e1 := errV_inv h1
  have e2 := errV_inv (e := some b) h2
  cases a with
  | none =>
    obtain rfl : v = .nilIface := e1
    obtain rfl : u = .iface 63 (.int .i64 b) := e2
    refine (is_nil b w).mono ?_
    rintro e w' ⟨rfl, rfl⟩
    exact ⟨⟨_, rfl, .bool _⟩, Grows.refl _⟩
  | some a =>
    obtain rfl : v = .iface 63 (.int .i64 a) := e1
    obtain rfl : u = .iface 63 (.int .i64 b) := e2
    refine (is_num a b w).mono ?_
    rintro e w' ⟨rfl, rfl⟩
    refine ⟨⟨_, rfl, ?_⟩, Grows.refl _⟩
    rw [show decide (some a = some b) = (a == b) by by_cases h : a = b <;> simp [h]]
    exact .bool _
theorem f56_ok (a : Option Int) : FnOk Tryz.prog 56 [errV a] H fun r G => r = .int .i64 (a.getD 0) ∧ G = H := by
  refine FnOk.of_calls fun φ w args' ha hw => ?_
  obtain ⟨v, rfl, h1⟩ := one_arg ha
  have e1 := errV_inv h1
  cases a with
  | none =>
    obtain rfl : v = .nilIface := e1
    refine (code_nil w).mono ?_
    rintro e w' ⟨rfl, hg⟩
    exact ⟨⟨_, rfl, .int _ _⟩, hg⟩
  | some a =>
    obtain rfl : v = .iface 63 (.int .i64 a) := e1
    refine (code_num a w (hw.rom 0 _ (List.mem_singleton.2 rfl)).1).mono ?_
    rintro e w' ⟨rfl, hg⟩
    exact ⟨⟨_, rfl, .int _ _⟩, hg⟩
end Go.Proofs
/- cut: small functions, walked. -/




set_option linter.all false
set_option linter.all false
set_option maxRecDepth 100000
namespace Go.Proofs
open Go Go.Ev
variable {H : Heap}

def isID (n : Int) : Prop := 1 ≤ n ∧ n ≤ 1000000000000
instance (n : Int) : Decidable (isID n) := inferInstanceAs (Decidable (_ ∧ _))
theorem f186_ok (n : Int) : FnOk Tryz.prog 186 [.int .i64 n] H fun r G => r = .bool (decide (isID n)) ∧ G = H := by
  refine FnOk.of_WW Tryz.func186 rfl C186ok R186ok E0 good_E0 ?_
  simp only [go_sem, C186]
  refine ⟨fun g => ⟨fun g2 => ⟨bool_t ⟨g, g2⟩, Heap.ext_nil H⟩, fun g2 => ⟨bool_f fun h => g2 h.2, Heap.ext_nil H⟩⟩, fun g => ⟨bool_f fun h => g h.1, Heap.ext_nil H⟩⟩
theorem f189_ok (a b : Option Int) : FnOk Tryz.prog 189 [errV a, errV b] H fun r G => r = errV (a.or b) ∧ G = H := by
  refine FnOk.of_WW Tryz.func189 rfl C189ok R189ok E0 good_E0 ?_
  cases a <;> cases b <;> simp only [go_sem, C189, errV, Option.or] <;> exact Heap.ext_nil H
theorem f20_ok (a : Option Int) (n : Int) : FnOk Tryz.prog 20 [errV a, .int .i64 n] H fun r G => r = .bool (decide (a = some n)) ∧ G = H := by
  refine FnOk.of_WW Tryz.func20 rfl C20ok R20ok E0 good_E0 ?_
  cases a with
  | none =>
    simp only [go_sem, C20, errV]
    exact Heap.ext_nil H
  | some a =>
    simp only [go_sem, C20, errV]
    refine CL.one (f56_ok (some a)) ?_
    simp only [go_sem, Option.getD_some]
    refine ⟨fun g => ⟨bool_f fun h => by cases h; exact g rfl, Heap.ext_nil H⟩, fun g => ?_⟩
    refine CL.one (f43_ok (some a) n) ?_
    rw [decide_eq_true (congrArg some (Classical.not_not.1 g))]
    simp only [go_sem]
    exact Heap.ext_nil H
theorem f191_ok (id ep : Int) (f t : List Nat) : FnOk Tryz.prog 191 [.int .i64 id, .int .i64 ep, .agg [.str f, .str t]] H fun r G => r = .agg [.int .i64 id, .int .i64 ep, .str f, .str t, .bool false, .nils, .nils, .nils] ∧ G = H := by
  refine FnOk.drop (R := fun r => r = .agg [.int .i64 id, .int .i64 ep, .str f, .str t, .bool false, .nils, .nils, .nils]) ?_ (by rintro v rfl ρ; simp only [AV.ren, AV.rens])
  refine FnOk.of_WW Tryz.func191 rfl C191ok R191ok E0 good_E0 ?_
  simp only [go_sem, C191]
  exact ⟨_, rfl⟩
theorem f187_ok (f t k : List Nat) : FnOk Tryz.prog 187 [.agg [.str f, .str t], .str k] H fun r G => r = (if has f t k ∧ ltS f k then .tup [.agg [.str f, .str k], .agg [.str k, .str t], .bool true] else .tup [.agg [.str [], .str []], .agg [.str [], .str []], .bool false]) ∧ G = H := by
  refine FnOk.drop (R := fun r => r = (if has f t k ∧ ltS f k then .tup [.agg [.str f, .str k], .agg [.str k, .str t], .bool true] else .tup [.agg [.str [], .str []], .agg [.str [], .str []], .bool false])) ?_ (by rintro v rfl ρ; split <;> simp only [AV.ren, AV.rens])
  refine FnOk.of_WW Tryz.func187 rfl C187ok R187ok E0 good_E0 ?_
  simp only [go_sem, C187]
  refine CL.bool (f58_ok f t k) (fun g1 => ?_) (fun g1 => ?_)
  · simp only [go_sem]
    refine ⟨fun g2 => ?_, fun g2 => ?_⟩
    · rw [if_neg fun h => ?_]
      · exact ⟨rfl, _, rfl⟩
      · rcases g2 with g2 | g2
        · exact ltS_irrefl _ (ltS_trans g2 h.2)
        · rw [g2] at h; exact ltS_irrefl _ h.2
    · have hlt : ltS f k := by
        rcases ltS_tri f k with h | h | h
        · exact h
        · exact absurd (.inr h.symm) g2
        · exact absurd (.inl h) g2
      rw [if_pos ⟨g1, hlt⟩]
      exact ⟨rfl, _, rfl⟩
  · simp only [go_sem]
    rw [if_neg fun h => g1 h.1]
    exact ⟨rfl, _, rfl⟩
structure Evn where
  key : List Nat
  ver : Int
  val : List Nat
  del : Bool
  deriving DecidableEq
def Evn.enc (e : Evn) : List AV := [.str e.key, .int .i64 e.ver, .str e.val, .bool e.del]
theorem Evn.rens (ρ : K → K) (c : Evn) : AV.rens ρ c.enc = c.enc := by simp only [Evn.enc, AV.rens, AV.ren]
theorem Evn.map_rens (ρ : K → K) (l : List Evn) : (l.map Evn.enc).map (AV.rens ρ) = l.map Evn.enc := by
  rw [List.map_map]; exact List.map_congr_left fun c _ => Evn.rens ρ c
def isEv (e : Evn) : Prop := mayBe e.key e.val e.ver e.del
instance (e : Evn) : Decidable (isEv e) := inferInstanceAs (Decidable (mayBe ..))
theorem f155_ok (e : Evn) : FnOk Tryz.prog 155 [.agg e.enc] H fun r G => r = .bool (decide (isEv e)) ∧ G = H := by
  refine FnOk.drop (R := fun r => r = .bool (decide (isEv e))) ?_ (by rintro v rfl ρ; rw [AV.ren])
  refine FnOk.of_WW Tryz.func155 rfl C155ok R155ok E0 good_E0 ?_
  simp only [go_sem, C155, Evn.enc]
  refine CL.one (f198_ok e.key e.val e.ver e.del) ?_
  simp only [go_sem]
  exact ⟨fun g => ⟨bool_t g, _, rfl⟩, fun g => ⟨bool_f g, _, rfl⟩⟩
end Go.Proofs
/- history: whether a cell's events are all from its floor up to its version: walked. -/

set_option linter.all false
set_option linter.all false
set_option maxRecDepth 100000
namespace Go.Proofs
open Go Go.Ev
variable {H : Heap}

/-- events of a key, version by version -/
def runE (k : List Nat) : List Evn → Int × Evn → Option (Int × Evn)
  | [], s => some s
  | e :: l, s => if e.key = k then (if e.ver = s.1 + 1 then runE k l (e.ver, e) else none) else runE k l s
def lastOf (c : Cell) : Evn := ⟨[], 0, c.value, c.del⟩
/-- a cell's events -/
def ofH (l : List Evn) (c : Cell) : Prop := ∃ s, runE c.key l (c.floor, lastOf c) = some s ∧ s.1 = c.ver ∧ s.2.val = c.value ∧ s.2.del = c.del
noncomputable instance (l : List Evn) (c : Cell) : Decidable (ofH l c) := Classical.propDecidable _
theorem drop_at {l : List Evn} {i : Nat} {e : Evn} (h : l[i]? = some e) : l.drop i = e :: l.drop (i + 1) := by
  obtain ⟨hl, rfl⟩ := List.getElem?_eq_some_iff.1 h
  exact List.drop_eq_getElem_cons hl
theorem f157_ok {v : AV} {l : List Evn} (hA : Arr H 4 v (l.map Evn.enc)) (hl : l.length < 9223372036854775807) (c : Cell) (hf : 0 ≤ c.floor ∧ c.floor ≤ 1000000000000) (he : ∀ e ∈ l, 1 ≤ e.ver ∧ e.ver ≤ 1000000000000) :
    FnOk Tryz.prog 157 [v, .agg c.enc] H fun r G => r = .bool (decide (ofH l c)) ∧ G = H := by
  refine FnOk.assume fun hok => ?_
  refine FnOk.drop (R := fun r => r = .bool (decide (ofH l c))) ?_ (by rintro v rfl ρ; rw [AV.ren])
  refine FnOk.of_WW Tryz.func157 rfl C157ok R157ok E0 good_E0 ?_
  have hlen := fun G => hA.len G; simp only [List.length_map] at hlen; have hren := hA.ren
  simp only [go_sem, C157, Cell.enc, hlen]
  refine LL.st good_E0 (fun s : Nat × Int × Evn => l.length - s.1) (fun s => s.1 ≤ l.length ∧ (0 ≤ s.2.1 ∧ s.2.1 ≤ 1000000000000) ∧ runE c.key l (c.floor, lastOf c) = runE c.key (l.drop s.1) s.2)
    (fun s => [((.o (.o .z)), .ptr (H.key 0) 0), ((.o (.i .z)), .int .i64 s.2.1), ((.i (.i .z)), .ptr (H.key 1) 0), ((.i (.o (.o (.o .z)))), v), ((.o (.i (.o (.o .z)))), .int .i64 l.length), ((.i (.i (.o (.o .z)))), .int .i64 s.1)])
    (fun s => [.row true 5 [[.str c.key, .str c.value, .int .i64 c.ver, .bool c.del, .int .i64 c.floor]], .row true 4 [[.str s.2.2.key, .int .i64 s.2.2.ver, .str s.2.2.val, .bool s.2.2.del]]]) ?_ (0, c.floor, lastOf c) (σ := [0, 1]) (Wk.of rfl (by decide) (by simp only [go_sem, hren]) (by simp only [go_sem, lastOf])) ⟨Nat.zero_le _, hf, rfl⟩
  rintro ⟨i, at_, last⟩ ⟨hi, hat, hrun⟩
  simp only at hi hat hrun
  by_cases hlt : i < l.length
  · obtain ⟨kk, r, ex', cap', wr, rows, hv, hrho, hgo, hrow⟩ := hA.at hok (j := i) (by rw [List.length_map]; exact hlt); simp only [List.length_map, List.getElem_map] at hv hrow; cases hv; have hget : l[i]? = some l[i] := List.getElem?_eq_getElem hlt; generalize l[i] = e at hrow hget; have hw := wrap_succ (n := i) (by omega); have hci : (i : Int) < (l.length : Int) := (by omega); have hsi : i + 1 ≤ l.length := (by omega)
    have hev := he e (List.mem_of_getElem? hget)
    rw [drop_at hget, runE] at hrun
    have hw2 : IntKind.i64.wrap (at_ + 1) = at_ + 1 := wrap_i64 (by omega) (by omega)
    simp only [go_sem, hlen, hci, hsi, hgo, hrow, hw, hw2, Evn.enc]
    have hno : runE c.key l (c.floor, lastOf c) = none → AV.bool false = .bool (decide (ofH l c)) := fun h => bool_f fun ⟨q, hq, _⟩ => by rw [h] at hq; cases hq
    refine ⟨fun g => ?_, fun g => ⟨fun g2 => ?_, fun g2 => ?_⟩⟩
    · rw [if_neg g] at hrun
      exact ⟨(i + 1, at_, last), by show l.length - (i + 1) < l.length - i; omega, ⟨by show i + 1 ≤ l.length; omega, hat, hrun⟩, _, [0, 1], rfl, Wk.of rfl (by decide) (by simp only [go_sem, hrho, hw]) (by simp only [go_sem])⟩
    · rw [if_pos (Classical.not_not.1 g), if_neg g2] at hrun
      exact ⟨hno hrun, _, rfl⟩
    · rw [if_pos (Classical.not_not.1 g), if_pos (Classical.not_not.1 g2)] at hrun
      exact ⟨(i + 1, e.ver, e), by show l.length - (i + 1) < l.length - i; omega, ⟨by show i + 1 ≤ l.length; omega, ⟨by show 0 ≤ e.ver; omega, by show e.ver ≤ _; omega⟩, hrun⟩, _, [0, 1], rfl, Wk.of rfl (by decide) (by simp only [go_sem, hrho, hw]) (by simp only [go_sem])⟩
  · have hci : ¬ (i : Int) < (l.length : Int) := by omega
    rw [List.drop_eq_nil_of_le (by omega), runE] at hrun
    simp only [go_sem, hci]
    have hof : ofH l c ↔ at_ = c.ver ∧ last.val = c.value ∧ last.del = c.del := by
      unfold ofH
      rw [hrun]
      exact ⟨fun ⟨q, h, h1⟩ => by cases h; exact h1, fun h => ⟨_, rfl, h⟩⟩
    refine ⟨fun g1 => ⟨fun g2 => ⟨fun g3 => ⟨bool_t (hof.2 ⟨g1, g2, g3⟩), _, rfl⟩, fun g3 => ⟨bool_f fun h => g3 (hof.1 h).2.2, _, rfl⟩⟩, fun g2 => ⟨bool_f fun h => g2 (hof.1 h).2.1, _, rfl⟩⟩, fun g1 => ⟨bool_f fun h => g1 (hof.1 h).1, _, rfl⟩⟩
end Go.Proofs
/- history, shards: whether they are any: walked. -/

set_option linter.all false
set_option linter.all false
set_option maxRecDepth 100000
namespace Go.Proofs
open Go Go.Ev
variable {H : Heap}

attribute [go_sem] mkfR
theorem f156_ok {k : K} {wr : Bool} {v : AV} {l : List Evn} (hk : H.get k = some (.row wr 1 [[v]])) (hA : Arr H 4 v (l.map Evn.enc)) (hl : l.length < 9223372036854775807) (c : Cell) (hf : 0 ≤ c.floor ∧ c.floor ≤ 1000000000000) (he : ∀ e ∈ l, 1 ≤ e.ver ∧ e.ver ≤ 1000000000000) :
    FnOk Tryz.prog 156 [.agg c.enc, .ptr k 0] H fun r G => r = .bool (decide (¬ ofH l c)) ∧ G = H := by
  refine FnOk.assume fun hok => ?_
  refine FnOk.drop (R := fun r => r = .bool (decide (¬ ofH l c))) ?_ (by rintro v rfl ρ; rw [AV.ren])
  refine FnOk.of_WW Tryz.func156 rfl C156ok R156ok E0 good_E0 ?_
  have hgo := Heap.get_ext_old hok hk
  simp only [go_sem, C156, Cell.enc, hgo]
  refine CL.bool (f157_ok (hA.ext _) hl c hf he) (fun g => ?_) (fun g => ?_)
  · simp only [go_sem]
    exact ⟨bool_f fun h => h g, _, rfl⟩
  · simp only [go_sem]
    exact ⟨bool_t g, _, rfl⟩
theorem f152_ok {v : AV} {l : List Cell} (hA : Arr H 5 v (l.map Cell.enc)) (hl : l.length ≤ 9223372036854775807) {g : FuncId} {caps : List AV} (hcall : ∀ args H, callC Tryz.prog g args H = .call g args)
    (hcaps : ∀ top σ, AV.ren (rho H top σ) (.fn (.func g) [] caps) = .fn (.func g) [] caps) {p : Cell → Prop} [DecidablePred p] (hg : ∀ c ∈ l, ∀ L, FnOk Tryz.prog g (.agg c.enc :: caps) (H.ext L) fun r G => r = .bool (decide (p c)) ∧ G = H.ext L) :
    FnOk Tryz.prog 152 [v, .fn (.func g) [] caps] H fun r G => (∃ n : Int, r = .int .i64 n ∧ (0 ≤ n ↔ ∃ c ∈ l, p c)) ∧ G = H := by
  refine FnOk.assume fun hok => ?_
  refine FnOk.drop (R := fun r => ∃ n : Int, r = .int .i64 n ∧ (0 ≤ n ↔ ∃ c ∈ l, p c)) ?_ (by rintro v ⟨n, rfl, _⟩ ρ; rw [AV.ren])
  refine FnOk.of_WW Tryz.func152 rfl C152ok R152ok E0 good_E0 ?_
  have hlen := fun G => hA.len G; simp only [List.length_map] at hlen; have hren := hA.ren
  simp only [go_sem, C152, hlen]
  refine LL.st good_E0 (fun i : Nat => l.length - i) (fun i => i ≤ l.length ∧ ∀ j d, j < i → l[j]? = some d → ¬ p d)
    (fun i => [(.z, v), ((.o .z), .fn (.func g) [] caps), ((.i (.i .z)), v), ((.o (.o (.o .z))), .int .i64 l.length), ((.i (.o (.o .z))), .int .i64 i)]) (fun i => []) ?_ 0 (σ := []) (Wk.of rfl (by decide) (by simp only [go_sem, hren, ↓hcaps]) (by simp only [go_sem])) ⟨Nat.zero_le _, fun j d h => absurd h (Nat.not_lt_zero _)⟩
  rintro i ⟨hi, hno⟩
  by_cases hlt : i < l.length
  · obtain ⟨kk, r, ex', cap', wr, rows, hv, hrho, hgo, hrow⟩ := hA.at hok (j := i) (by rw [List.length_map]; exact hlt); simp only [List.length_map, List.getElem_map] at hv hrow; cases hv; have hget : l[i]? = some l[i] := List.getElem?_eq_getElem hlt; generalize l[i] = c at hrow hget; have hw := wrap_succ (n := i) (by omega); have hci : (i : Int) < (l.length : Int) := (by omega); have hsi : i + 1 ≤ l.length := (by omega)
    have hgc := hg c (List.mem_of_getElem? hget)
    simp only [Cell.enc] at hgc
    simp only [go_sem, hci, hsi, hgo, hrow, hw, Cell.enc, hcall]
    refine CL.bool (hgc _) (fun g => ?_) (fun g => ?_)
    · simp only [go_sem]
      exact ⟨⟨_, rfl, fun _ => ⟨c, List.mem_of_getElem? hget, g⟩, fun _ => by omega⟩, _, rfl⟩
    · simp only [go_sem, hw]
      refine ⟨i + 1, by show l.length - (i + 1) < l.length - i; omega, ⟨by omega, fun j d hj hd => ?_⟩, _, [], rfl, Wk.of rfl (by decide) (by simp only [go_sem, hren, hrho, ↓hcaps, hw]) (by simp only [go_sem])⟩
      rcases Nat.lt_or_ge j i with h | h
      · exact hno j d h hd
      · obtain rfl : j = i := by omega
        rw [hget] at hd; cases hd; exact g
  · have hci : ¬ (i : Int) < (l.length : Int) := by omega
    simp only [go_sem, hci]
    refine ⟨⟨_, rfl, fun h => absurd h (by decide), ?_⟩, _, rfl⟩
    rintro ⟨d, hd, hb⟩
    obtain ⟨j, hj⟩ := List.mem_iff_getElem?.1 hd
    exact absurd hb (hno j d (by have := (List.getElem?_eq_some_iff.1 hj).1; omega) hj)
noncomputable instance (l : List Cell) (p : Cell → Prop) : Decidable (∃ c ∈ l, p c) := Classical.propDecidable _
theorem f115_ok {v : AV} {l : List Cell} (hA : Arr H 5 v (l.map Cell.enc)) (hl : l.length ≤ 9223372036854775807) {g : FuncId} {caps : List AV} (hcall : ∀ args H, callC Tryz.prog g args H = .call g args)
    (hcaps : ∀ top σ, AV.ren (rho H top σ) (.fn (.func g) [] caps) = .fn (.func g) [] caps) {p : Cell → Prop} [DecidablePred p] (hg : ∀ c ∈ l, ∀ L, FnOk Tryz.prog g (.agg c.enc :: caps) (H.ext L) fun r G => r = .bool (decide (p c)) ∧ G = H.ext L) :
    FnOk Tryz.prog 115 [v, .fn (.func g) [] caps] H fun r G => r = .bool (decide (∃ c ∈ l, p c)) ∧ G = H := by
  refine FnOk.drop (R := fun r => r = .bool (decide (∃ c ∈ l, p c))) ?_ (by rintro v rfl ρ; rw [AV.ren])
  refine FnOk.of_WW Tryz.func115 rfl C115ok R115ok E0 good_E0 ?_
  simp only [go_sem, C115]
  have h := f152_ok hA hl hcall hcaps hg
  rw [← Heap.ext_nil H] at h
  refine CL.of h ?_
  rintro _ _ ⟨⟨n, rfl, hn⟩, rfl⟩
  simp only [go_sem]
  exact ⟨fun h => ⟨bool_t (hn.1 h), [], rfl⟩, fun h => ⟨bool_f fun e => h (hn.2 e), [], rfl⟩⟩
/-- events of cells -/
def isHist (l : List Evn) (cells : List Cell) : Prop := isIdx cells ∧ (∀ e ∈ l, (getL cells e.key).2 = true ∧ isEv e) ∧ ∀ c ∈ cells, ofH l c
noncomputable instance (l : List Evn) (cells : List Cell) : Decidable (isHist l cells) := Classical.propDecidable _
theorem isIdx.cell {cells : List Cell} (h : isIdx cells) {c : Cell} (hc : c ∈ cells) : cellIs c := by
  obtain ⟨j, hj⟩ := List.mem_iff_getElem?.1 hc
  have := h j (List.getElem?_eq_some_iff.1 hj).1
  obtain ⟨c', h1, h2, _⟩ := this
  rw [hj] at h1; cases h1; exact h2
end Go.Proofs
/- history, shards: whether they are any: walked. -/

set_option linter.all false
set_option linter.all false
set_option maxRecDepth 100000
namespace Go.Proofs
open Go Go.Ev
variable {H : Heap}

theorem arr_agg {esz : Nat} {v : AV} {xs : List (List AV)} (h : Arr H esz v xs) {β : Type} (f : β) (c : List AV → β) : asAggC v f c = f := by
  rcases h.forms with ⟨rfl, _⟩ | ⟨k, off, ex, cap, rfl, _⟩ <;> rfl
theorem arr_one {esz : Nat} {v : AV} {xs : List (List AV)} (h : Arr H esz v xs) : AV.one v = true := by
  rcases h.forms with ⟨rfl, _⟩ | ⟨k, off, ex, cap, rfl, _⟩ <;> rfl
theorem isEv.ver {e : Evn} (h : isEv e) : 1 ≤ e.ver ∧ e.ver ≤ 1000000000000 := ⟨h.2.2.2.1, h.2.2.2.2⟩
theorem cellIs.floor {c : Cell} (h : cellIs c) : 0 ≤ c.floor ∧ c.floor ≤ 1000000000000 := ⟨h.2.1, by have := h.1.2.2.2.2; have := h.2.2; omega⟩
theorem cap_ren {H : Heap} {b : Blk} {g : FuncId} (L : List Blk) (top : Nat) (σ : List Nat) : AV.ren (rho ((H.ext [b]).ext L) top σ) (.fn (.func g) [] [.ptr (H.key 0) 0]) = .fn (.func g) [] [.ptr (H.key 0) 0] := by
  have : rho ((H.ext [b]).ext L) top σ (H.key 0) = H.key 0 := rho_old (by rw [Heap.nx_ext, Heap.toNat_key, Heap.toNat_key, Heap.nx_ext, Heap.toNat_key]; simp; omega)
  simp only [AV.ren, AV.rens, this]
theorem get_first {H : Heap} {b : Blk} (L M : List Blk) : ((H.ext (b :: L)).ext M).get (H.key 0) = some b := by
  rw [Heap.ext_append, Heap.get_ext_key _ _ _ (by simp)]; rfl
theorem f116_ok {v u : AV} {l : List Evn} {cs : List Cell} (hA : Arr H 4 v (l.map Evn.enc)) (hB : Arr H 5 u (cs.map Cell.enc)) (hl : l.length < 4294967296) (hc : cs.length < 4294967296) :
    FnOk Tryz.prog 116 [v, u] H fun r G => r = .bool (decide (isHist l cs)) ∧ G = H := by
  refine FnOk.assume fun hok => ?_
  refine FnOk.drop (R := fun r => r = .bool (decide (isHist l cs))) ?_ (by rintro v rfl ρ; rw [AV.ren])
  refine FnOk.of_WW Tryz.func116 rfl C116ok R116ok E0 good_E0 ?_
  have hlen := fun G => hA.len G; simp only [List.length_map] at hlen; have hren := hA.ren
  have hren2 := hB.ren
  have hag := fun {β : Type} => arr_agg hA (β := β)
  have hon := arr_one hA
  simp only [go_sem, C116, hag, hon]
  refine CL.bool (f153_ok (hB.ext _) hc) (fun g1 => ?_) (fun g1 => ?_)
  rotate_left
  · simp only [go_sem]
    exact ⟨bool_f fun h => g1 h.1, _, rfl⟩
  simp only [go_sem, hlen]
  refine LL.st good_E0 (fun i : Nat => l.length - i) (fun i => i ≤ l.length ∧ ∀ j d, j < i → l[j]? = some d → (getL cs d.key).2 = true ∧ isEv d)
    (fun i => [((.o .z), u), ((.i .z), .ptr (H.key 0) 0), ((.i (.o (.i .z))), v), ((.o (.i (.i .z))), .int .i64 l.length), ((.i (.i (.i .z))), .int .i64 i)]) (fun i => [.row true 1 [[v]]]) ?_ 0 (σ := [0]) (Wk.of rfl (by decide) (by simp only [go_sem, hren, hren2]) (by simp only [go_sem, hren])) ⟨Nat.zero_le _, fun j d h => absurd h (Nat.not_lt_zero _)⟩
  rintro i ⟨hi, hno⟩
  by_cases hlt : i < l.length
  · have hren' := hren
    obtain ⟨kk, r, ex', cap', wr, rows, hv, hrho, hgo, hrow⟩ := hA.at hok (j := i) (by rw [List.length_map]; exact hlt); simp only [List.length_map, List.getElem_map] at hv hrow; cases hv; have hget : l[i]? = some l[i] := List.getElem?_eq_getElem hlt; generalize l[i] = e at hrow hget; have hw := wrap_succ (n := i) (by omega); have hci : (i : Int) < (l.length : Int) := (by omega); have hsi : i + 1 ≤ l.length := (by omega)
    have hbad : ¬ ((getL cs e.key).2 = true ∧ isEv e) → AV.bool false = .bool (decide (isHist l cs)) := fun h => bool_f fun g => h (g.2.1 e (List.mem_of_getElem? hget))
    simp only [go_sem, hci, hsi, hgo, hrow, hw, Evn.enc]
    refine CL.of (f154_ok (hB.ext _) hc e.key) ?_
    rintro _ _ ⟨rfl, rfl⟩
    generalize hq : getL cs e.key = q at *
    obtain ⟨q, b⟩ := q
    cases b
    · simp only [go_sem, Cell.enc]
      exact ⟨hbad fun h => (by cases h.1), _, rfl⟩
    · simp only [go_sem, Cell.enc]
      refine CL.bool (f155_ok e) (fun g => ?_) (fun g => ?_)
      · simp only [go_sem]
        refine ⟨i + 1, by show l.length - (i + 1) < l.length - i; omega, ⟨by omega, fun j d hj hd => ?_⟩, _, [0], rfl, Wk.of rfl (by decide) (by simp only [go_sem, hren2, hrho, hw]) (by simp only [go_sem, hrho])⟩
        rcases Nat.lt_or_ge j i with h | h
        · exact hno j d h hd
        · obtain rfl : j = i := by omega
          rw [hget] at hd; cases hd; exact ⟨by rw [hq], g⟩
      · simp only [go_sem]
        exact ⟨hbad fun h => g h.2, _, rfl⟩
  · have hci : ¬ (i : Int) < (l.length : Int) := by omega
    have hall : ∀ e ∈ l, (getL cs e.key).2 = true ∧ isEv e := fun e he => by
      obtain ⟨j, hj⟩ := List.mem_iff_getElem?.1 he
      exact hno j e (by have := (List.getElem?_eq_some_iff.1 hj).1; omega) hj
    simp only [go_sem, hci]
    refine CL.bool (f115_ok (hB.ext _) (by omega) (fun _ _ => call156 ..) (fun top σ => by have := cap_ren (H := H) (b := .row true 1 [[v]]) (g := 156) [] top σ; rwa [Heap.ext_nil] at this) (p := fun c => ¬ ofH l c) fun c hcm L => f156_ok (get_first [] L) ((hA.ext _).ext _) (by omega) c (g1.cell hcm).floor fun e he => (hall e he).2.ver) (fun g => ?_) (fun g => ?_)
    · simp only [go_sem]
      obtain ⟨c, h1, h2⟩ := g
      exact ⟨bool_f fun h => h2 (h.2.2 c h1), _, rfl⟩
    · simp only [go_sem]
      exact ⟨bool_t ⟨g1, hall, fun c hcm => Classical.byContradiction fun h => g ⟨c, hcm, h⟩⟩, _, rfl⟩
structure Sh where
  id : Int
  ep : Int
  fr : List Nat
  to : List Nat
  frz : Bool
  cells : List Cell
  evs : List Evn
  done : List Dn
  cv : AV
  ev : AV
  dv : AV
def Sh.enc (s : Sh) : List AV := [.int .i64 s.id, .int .i64 s.ep, .str s.fr, .str s.to, .bool s.frz, s.cv, s.ev, s.dv]
structure Sh.ok (H : Heap) (s : Sh) : Prop where
  c : Arr H 5 s.cv (s.cells.map Cell.enc)
  e : Arr H 4 s.ev (s.evs.map Evn.enc)
  d : Arr H 6 s.dv (s.done.map Dn.enc)
  dok : allOk H s.done
  cl : s.cells.length < 4294967296
  el : s.evs.length < 4294967296
  dl : s.done.length < 4294967296
theorem Sh.ok.ext {s : Sh} (h : s.ok H) (L : List Blk) : s.ok (H.ext L) := ⟨h.c.ext L, h.e.ext L, h.d.ext L, h.dok.ext L, h.cl, h.el, h.dl⟩
theorem Sh.ok.ren {s : Sh} (h : s.ok H) (top : Nat) (σ : List Nat) : AV.rens (rho H top σ) s.enc = s.enc := by
  simp only [Sh.enc, AV.rens, AV.ren, h.c.ren top σ, h.e.ren top σ, h.d.ren top σ]
/-- a shard -/
def isSh (s : Sh) : Prop := (1 ≤ s.id ∧ s.id ≤ 1000000000000 ∧ 1 ≤ s.ep ∧ s.ep ≤ 1000000) ∧ isSpan s.fr s.to ∧ (∀ c ∈ s.cells, has s.fr s.to c.key) ∧ (s.evs.length : Int) ≤ 24 ∧ isHist s.evs s.cells ∧ isDone s.done
noncomputable instance (s : Sh) : Decidable (isSh s) := Classical.propDecidable _
theorem f114_ok {k : K} {wr : Bool} {s : Sh} (hk : H.get k = some (.row wr 8 [[.int .i64 s.id, .int .i64 s.ep, .str s.fr, .str s.to, .bool s.frz, s.cv, s.ev, s.dv]])) (c : Cell) :
    FnOk Tryz.prog 114 [.agg c.enc, .ptr k 0] H fun r G => r = .bool (decide (¬ has s.fr s.to c.key)) ∧ G = H := by
  refine FnOk.assume fun hok => ?_
  refine FnOk.drop (R := fun r => r = .bool (decide (¬ has s.fr s.to c.key))) ?_ (by rintro v rfl ρ; rw [AV.ren])
  refine FnOk.of_WW Tryz.func114 rfl C114ok R114ok E0 good_E0 ?_
  have hgo := Heap.get_ext_old hok hk
  simp only [go_sem, C114, Cell.enc, hgo]
  refine CL.bool (f58_ok s.fr s.to c.key) (fun g => ?_) (fun g => ?_)
  · simp only [go_sem]
    exact ⟨bool_f fun h => h g, _, rfl⟩
  · simp only [go_sem]
    exact ⟨bool_t g, _, rfl⟩
theorem f69_ok {s : Sh} (h : s.ok H) : FnOk Tryz.prog 69 [.agg s.enc] H fun r G => r = .bool (decide (isSh s)) ∧ G = H := by
  refine FnOk.assume fun hok => ?_
  refine FnOk.drop (R := fun r => r = .bool (decide (isSh s))) ?_ (by rintro v rfl ρ; rw [AV.ren])
  refine FnOk.of_WW Tryz.func69 rfl C69ok R69ok E0 good_E0 ?_
  have hlen := fun G => h.e.len G
  simp only [List.length_map] at hlen
  simp only [go_sem, C69, Sh.enc]
  have hbad : ¬ isSh s → AV.bool false = .bool (decide (isSh s)) := fun g => bool_f g
  refine ⟨fun g1 => ⟨hbad fun g => absurd g.1.1 (by omega), _, rfl⟩, fun g1 => ⟨fun g2 => ⟨hbad fun g => absurd g.1.2.1 (by omega), _, rfl⟩, fun g2 => ⟨fun g3 => ⟨hbad fun g => absurd g.1.2.2.1 (by omega), _, rfl⟩, fun g3 => ⟨fun g4 => ⟨hbad fun g => absurd g.1.2.2.2 (by omega), _, rfl⟩, fun g4 => ?_⟩⟩⟩⟩
  refine CL.bool (f106_ok s.fr s.to) (fun g5 => ?_) (fun g5 => ?_)
  rotate_left
  · simp only [go_sem]
    exact ⟨hbad fun g => g5 g.2.1, _, rfl⟩
  simp only [go_sem]
  refine CL.bool (f115_ok (l := s.cells) (h.c.ext _) (by have := h.cl; omega) (fun _ _ => call114 ..) (fun top σ => by have := cap_ren (H := H) (b := .row true 8 [[.int .i64 s.id, .int .i64 s.ep, .str s.fr, .str s.to, .bool s.frz, s.cv, s.ev, s.dv]]) (g := 114) [] top σ; rwa [Heap.ext_nil] at this) (p := fun c => ¬ has s.fr s.to c.key) fun c hcm L => f114_ok (get_first [] L) c) (fun g6 => ?_) (fun g6 => ?_)
  · simp only [go_sem]
    obtain ⟨c, h1, h2⟩ := g6
    exact ⟨hbad fun g => h2 (g.2.2.1 c h1), _, rfl⟩
  simp only [go_sem, hlen]
  refine ⟨fun g7 => ⟨hbad fun g => absurd g.2.2.2.1 (by omega), _, rfl⟩, fun g7 => ?_⟩
  refine CL.bool (f116_ok (h.e.ext _) (h.c.ext _) h.el h.cl) (fun g8 => ?_) (fun g8 => ?_)
  rotate_left
  · simp only [go_sem]
    exact ⟨hbad fun g => g8 g.2.2.2.2.1, _, rfl⟩
  simp only [go_sem]
  refine CL.bool (f117_ok (h.d.ext _) (h.dok.ext _) (by have := h.dl; omega)) (fun g9 => ?_) (fun g9 => ?_)
  rotate_left
  · simp only [go_sem]
    exact ⟨hbad fun g => g9 g.2.2.2.2.2, _, rfl⟩
  simp only [go_sem]
  exact ⟨bool_t ⟨⟨by omega, by omega, by omega, by omega⟩, g5, fun c hc => Classical.byContradiction fun g => g6 ⟨c, hc, g⟩, by omega, g8, g9⟩, _, rfl⟩
end Go.Proofs
/- as the law has it: whether events are those of cells, whether it is a shard: walked. -/

set_option linter.all false
set_option linter.all false
set_option maxRecDepth 100000
namespace Go.Proofs
open Go Go.Ev
variable {H : Heap}

/-- the same, as the law has it -/
def runR (c : Cell) : List Evn → Int → Option Int
  | [], v => some v
  | e :: l, v => if e.key = c.key then (if e.ver = v + 1 ∧ (v + 1 = c.ver → e.val = c.value ∧ e.del = c.del) then runR c l (v + 1) else none) else runR c l v
theorem runR_ge {c : Cell} : ∀ {l : List Evn} {v w : Int}, runR c l v = some w → v ≤ w
  | [], v, w, h => by cases h; exact Int.le_refl _
  | e :: l, v, w, h => by
    rw [runR] at h
    split at h
    · split at h
      · have := runR_ge h; omega
      · cases h
    · exact runR_ge h
theorem ofG {c : Cell} : ∀ {l : List Evn} {at_ : Int} {last : Evn}, (∃ s, runE c.key l (at_, last) = some s ∧ s.1 = c.ver ∧ s.2.val = c.value ∧ s.2.del = c.del) ↔ (runR c l at_ = some c.ver ∧ (at_ = c.ver → last.val = c.value ∧ last.del = c.del))
  | [], at_, last => by
    rw [runE, runR]
    constructor
    · rintro ⟨s, h, h1, h2, h3⟩
      cases h
      exact ⟨congrArg some h1, fun _ => ⟨h2, h3⟩⟩
    · rintro ⟨h1, h2⟩
      have h1 : at_ = c.ver := Option.some.inj h1
      exact ⟨_, rfl, h1, (h2 h1).1, (h2 h1).2⟩
  | e :: l, at_, last => by
    rw [runE, runR]
    by_cases hk : e.key = c.key
    · rw [if_pos hk, if_pos hk]
      by_cases hv : e.ver = at_ + 1
      · rw [if_pos hv, ofG (l := l), hv]
        by_cases hq : at_ + 1 = c.ver → e.val = c.value ∧ e.del = c.del
        · rw [if_pos ⟨rfl, hq⟩]
          refine ⟨fun h => ⟨h.1, fun g => ?_⟩, fun h => ⟨h.1, hq⟩⟩
          have := runR_ge h.1; omega
        · rw [if_neg fun h => hq h.2]
          exact ⟨fun h => absurd h.2 hq, fun h => (by cases h.1)⟩
      · rw [if_neg hv, if_neg fun h => hv h.1]
        exact ⟨fun ⟨s, h, _⟩ => (by cases h), fun h => (by cases h.1)⟩
    · rw [if_neg hk, if_neg hk, ofG (l := l)]
theorem ofH_iff {l : List Evn} {c : Cell} : ofH l c ↔ runR c l c.floor = some c.ver := by
  unfold ofH
  rw [ofG]
  exact ⟨fun h => h.1, fun h => ⟨h, fun _ => ⟨rfl, rfl⟩⟩⟩
end Go.Proofs
/- slices.Concat of two, walked. -/

set_option linter.all false
set_option linter.all false
set_option maxRecDepth 100000
namespace Go.Proofs
open Go Go.Ev
variable {H : Heap}

theorem appQ_fit {L : List Blk} {i m n esz bytes : Nat} {rows : List (List AV)} {v : AV} {ys : List (List AV)} (hpos : 0 < esz) (hok : (H.ext L).ok) (hi : L[i]? = some (.row true esz rows)) (hn : rows.length = n) (hm : m + ys.length ≤ n) (hv : Arr (H.ext L) esz v ys) :
    appQ esz bytes (some (.slice (H.key i) 0 m esz false n)) (some v) (H.ext L) = .val (.slice (H.key i) 0 (m + ys.length) esz false n) (H.ext (L.set i (.row true esz (rows.take m ++ ys ++ rows.drop (m + ys.length))))) := by
  have hil := (List.getElem?_eq_some_iff.1 hi).1
  have h0 : ys.length = 0 → R1.val (.slice (H.key i) 0 m esz false n) (H.ext L) = .val (.slice (H.key i) 0 (m + ys.length) esz false n) (H.ext (L.set i (.row true esz (rows.take m ++ ys ++ rows.drop (m + ys.length))))) := fun h => by
    obtain rfl := List.length_eq_zero_iff.1 h
    have : L.set i (.row true esz rows) = L := by
      refine List.ext_getElem? fun q => ?_
      rw [List.getElem?_set]
      split
      · rename_i hq; subst hq; first | exact hi.symm | (rw [if_pos hil]; exact hi.symm)
      · rfl
    rw [List.length_nil, Nat.add_zero, List.append_nil, List.take_append_drop, this]
  rcases hv with ⟨rfl, rfl⟩ | ⟨k, off, ex, cap, rfl, hk, h⟩
  · exact (show appQ esz bytes (some (.slice (H.key i) 0 m esz false n)) (some .nils) (H.ext L) = R1.val (.slice (H.key i) 0 m esz false n) (H.ext L) from rfl).trans (h0 rfl)
  · rcases Nat.eq_zero_or_pos ys.length with hz | hz
    · refine Eq.trans ?_ (h0 hz)
      show appR esz bytes (.c (.slice (H.key i) 0 m esz false n)) (.c (.slice k off ys.length esz ex cap)) .lf (H.ext L) = _
      rw [hz]; rfl
    · obtain ⟨r, wr, rows', rfl, hg, hrow⟩ := h (by intro e; rw [e] at hz; simp at hz)
      have e1 : r * esz % esz = 0 := Nat.mul_mod_left r esz
      have e2 : r * esz / esz = r := Nat.mul_div_cancel r hpos
      have hlen := congrArg List.length hrow
      rw [List.length_take, List.length_drop] at hlen
      have e3 : ys.length ≤ (rows'.drop r).length := by rw [List.length_drop]; omega
      have e4 : ¬ ys.length = 0 := by omega
      have e5 : m ≤ rows.length := by omega
      have e6 : m + ys.length ≤ rows.length := by omega
      have hgi : (H.ext L).get (H.key i) = some (.row true esz rows) := by rw [Heap.get_ext_key _ _ _ hil, hi]
      subst hn
      show appR esz bytes (.c (.slice (H.key i) 0 m esz false rows.length)) (.c (.slice k (r * esz) ys.length esz ex cap)) .lf (H.ext L) = _
      simp only [go_sem, hg, hgi, e1, e2, e3, e4, e5, e6, hrow, Nat.zero_mod, Nat.zero_div, Nat.zero_add, hm]
      rw [Heap.setC_ext _ _ _ _ _ hil]
theorem f219_ok {n : Nat} (hn : n < 100000) : FnOk Tryz.prog 219 [.nils, .int .i64 (n : Int)] H fun r G => r = (if n = 0 then .nils else .slice H.nx 0 0 4 false n) ∧ G = H.ext [if n = 0 then .dead else .row true 4 (List.replicate n [.str [], .int .i64 0, .str [], .bool false])] := by
  by_cases h0 : n = 0
  · subst h0
    refine FnOk.wk (Q := fun r G => r = .nils ∧ ∃ l, G = H.ext l) ?_ ?_
    · refine FnOk.of_WW Tryz.func219 rfl C219ok R219ok E0 good_E0 ?_
      have hz : ¬ (0 : Int) < IntKind.i64.wrap (0 - IntKind.i64.wrap (0 - 0)) := by decide
      simp only [go_sem, C219, hz]
      exact ⟨_, rfl⟩
    · rintro v G ⟨rfl, l, rfl⟩
      exact ⟨l, [.dead], [0], .nils, rfl, (by rw [AV.ren]), rfl, by decide, by simp [Blk.live], rfl, rfl⟩
  · rw [if_neg h0, if_neg h0]
    refine FnOk.of_WW Tryz.func219 rfl C219ok R219ok E0 good_E0 ?_
    have h1 : ¬ (n : Int) < 0 := by omega
    have h2 : (0 : Int) < (n : Int) := by omega
    have hw : IntKind.i64.wrap ((n : Int) - IntKind.i64.wrap (0 - 0)) = (n : Int) := by
      rw [show IntKind.i64.wrap (0 - 0) = 0 from rfl, wrap_i64 (by omega) (by omega)]; omega
    have hrec : ∀ (f g : Nat → R1), Int.rec (motive := fun _ => R1) f g ((n : Nat) : Int) = f n := fun _ _ => rfl
    have hb : (2 * n + 192) * 48 ≤ 281474976710656 := by omega
    simp only [go_sem, C219, h0, h1, h2, hw, hrec, hb]
    exact ⟨⟨by omega, Nat.le_refl n⟩, by rw [Heap.key_zero, Nat.sub_zero]⟩
theorem f220_ok {n : Nat} (hn : n < 100000) : FnOk Tryz.prog 220 [.nils, .int .i64 (n : Int)] H fun r G => r = (if n = 0 then .nils else .slice H.nx 0 0 5 false n) ∧ G = H.ext [if n = 0 then .dead else .row true 5 (List.replicate n [.str [], .str [], .int .i64 0, .bool false, .int .i64 0])] := by
  by_cases h0 : n = 0
  · subst h0
    refine FnOk.wk (Q := fun r G => r = .nils ∧ ∃ l, G = H.ext l) ?_ ?_
    · refine FnOk.of_WW Tryz.func220 rfl C220ok R220ok E0 good_E0 ?_
      have hz : ¬ (0 : Int) < IntKind.i64.wrap (0 - IntKind.i64.wrap (0 - 0)) := by decide
      simp only [go_sem, C220, hz]
      exact ⟨_, rfl⟩
    · rintro v G ⟨rfl, l, rfl⟩
      exact ⟨l, [.dead], [0], .nils, rfl, (by rw [AV.ren]), rfl, by decide, by simp [Blk.live], rfl, rfl⟩
  · rw [if_neg h0, if_neg h0]
    refine FnOk.of_WW Tryz.func220 rfl C220ok R220ok E0 good_E0 ?_
    have h1 : ¬ (n : Int) < 0 := by omega
    have h2 : (0 : Int) < (n : Int) := by omega
    have hw : IntKind.i64.wrap ((n : Int) - IntKind.i64.wrap (0 - 0)) = (n : Int) := by
      rw [show IntKind.i64.wrap (0 - 0) = 0 from rfl, wrap_i64 (by omega) (by omega)]; omega
    have hrec : ∀ (f g : Nat → R1), Int.rec (motive := fun _ => R1) f g ((n : Nat) : Int) = f n := fun _ _ => rfl
    have hb : (2 * n + 192) * 56 ≤ 281474976710656 := by omega
    simp only [go_sem, C220, h0, h1, h2, hw, hrec, hb]
    exact ⟨⟨by omega, Nat.le_refl n⟩, by rw [Heap.key_zero, Nat.sub_zero]⟩
theorem appQ_none {esz bytes : Nat} {v : AV} {G : Heap} (hv : Arr G esz v []) : appQ esz bytes (some .nils) (some v) G = .val .nils G := by
  rcases hv with ⟨rfl, _⟩ | ⟨k, off, ex, cap, rfl, _, _⟩
  · rfl
  · rfl
theorem read_two (u v : AV) (f : R1) (c : List AV → R1) : readC f 1 [[u], [v]] 1 1 c = c [v] := (readC_at0 f 1 [[u], [v]] 1 1 c (by decide) (by decide)).trans rfl
theorem f193_ok {k : K} {wr ex : Bool} {cap : Nat} {u v : AV} {xs ys : List Evn} (hk : H.get k = some (.row wr 1 [[u], [v]])) (hkk : k.toNat < H.nx.toNat) (hA : Arr H 4 u (xs.map Evn.enc)) (hB : Arr H 4 v (ys.map Evn.enc)) (hx : xs.length < 10000) (hy : ys.length < 10000) :
    FnOk Tryz.prog 193 [.slice k 0 2 1 ex cap] H fun r G => r = outV H.nx 4 (xs ++ ys).length ∧ G = H.ext [outB 4 ((xs ++ ys).map Evn.enc)] := by
  obtain ⟨zs, hz⟩ : ∃ zs, zs = xs ++ ys := ⟨_, rfl⟩
  rw [← hz]
  have hzl : zs.length = xs.length + ys.length := by rw [hz, List.length_append]
  refine FnOk.assume fun hok => ?_
  refine FnOk.dropO (List.length_map ..) (Evn.map_rens · _) ?_
  refine FnOk.of_WW Tryz.func193 rfl C193ok R193ok E0 good_E0 ?_
  have hgo := Heap.get_ext_old hok hk
  have hl1 := fun G => hA.len G
  have hl2 := fun G => hB.len G
  simp only [List.length_map] at hl1 hl2
  have hrk : ∀ top σ, rho H top σ k = k := fun top σ => rho_old hkk
  simp only [go_sem, C193]
  refine LL.st good_E0 (fun s : Nat × Nat => 2 - s.1) (fun s => s = (0, 0) ∨ s = (1, xs.length) ∨ s = (2, xs.length + ys.length))
    (fun s => [(.z, .slice k 0 2 1 ex cap), ((.o (.o .z)), .int .i64 s.2), ((.o (.i (.o .z))), .slice k 0 2 1 ex cap), ((.i (.i (.o .z))), .int .i64 2), ((.o (.o (.i .z))), .int .i64 s.1)]) (fun s => []) ?_ (0, 0) (σ := []) (Wk.of rfl (by decide) (by simp only [go_sem, hrk]; first | done | exact ⟨rfl, rfl⟩) (by simp only [go_sem])) (.inl rfl)
  have hw0 : IntKind.i64.wrap (0 + (xs.length : Int)) = (xs.length : Int) := by rw [wrap_i64 (by omega) (by omega)]; omega
  have hw1 : IntKind.i64.wrap ((xs.length : Int) + (ys.length : Int)) = ((xs.length + ys.length : Nat) : Int) := by rw [wrap_i64 (by omega) (by omega)]; omega
  have hn0 : ¬ (xs.length : Int) < 0 := by omega
  have hn1 : ¬ ((xs.length + ys.length : Nat) : Int) < 0 := by omega
  have hs1 : IntKind.i64.wrap (0 + 1) = 1 := rfl
  have hs2 : IntKind.i64.wrap (1 + 1) = 2 := rfl
  rintro s (rfl | rfl | rfl)
  · simp only [go_sem, hgo, hl1, hw0, hn0]
    exact ⟨(1, xs.length), by show 2 - 1 < 2 - 0; omega, .inr (.inl rfl), _, [], rfl, Wk.of rfl (by decide) (by simp only [go_sem, hrk, hs1]; first | done | rfl) (by simp only [go_sem])⟩
  · simp only [go_sem, hgo, hl2, hw1, hn1, read_two]
    exact ⟨(2, xs.length + ys.length), by show 2 - 2 < 2 - 1; omega, .inr (.inr rfl), _, [], rfl, Wk.of rfl (by decide) (by simp only [go_sem, hrk, hs2]; first | done | rfl) (by simp only [go_sem])⟩
  · simp only [go_sem]
    refine CL.of (f219_ok (n := xs.length + ys.length) (by omega)) ?_
    rintro _ G' ⟨rfl, hG⟩
    rw [hG]
    clear hG
    by_cases h0 : xs.length + ys.length = 0
    · have hx0 : xs = [] := List.length_eq_zero_iff.1 (by omega)
      have hy0 : ys = [] := List.length_eq_zero_iff.1 (by omega)
      subst hx0 hy0
      obtain rfl : zs = [] := hz
      simp only [go_sem]
      refine LL.st good_E0 (fun i : Nat => 2 - i) (fun i => i = 0 ∨ i = 1 ∨ i = 2)
        (fun i => [((.i (.i .z)), .nils), ((.o (.i (.o (.i .z)))), .slice k 0 2 1 ex cap), ((.i (.i (.o (.i .z)))), .int .i64 2), ((.o (.o (.i (.i .z)))), .int .i64 i)]) (fun i => []) ?_ 0 (σ := []) (Wk.of rfl (by decide) (by simp only [go_sem, hrk]; first | done | rfl) (by simp only [go_sem])) (.inl rfl)
      rintro i (rfl | rfl | rfl)
      · simp only [go_sem, ↓appR_hide, hgo]
        rw [appQ_none (hA.ext _)]
        simp only [go_sem]
        exact ⟨1, by decide, .inr (.inl rfl), _, [], rfl, Wk.of rfl (by decide) (by simp only [go_sem, hrk, hs1]; first | done | rfl) (by simp only [go_sem])⟩
      · simp only [go_sem, ↓appR_hide, hgo, read_two]
        rw [appQ_none (hB.ext _)]
        simp only [go_sem]
        exact ⟨2, by decide, .inr (.inr rfl), _, [], rfl, Wk.of rfl (by decide) (by simp only [go_sem, hrk, hs2]; first | done | rfl) (by simp only [go_sem])⟩
      · simp only [go_sem]
        first | exact ⟨_, 0, rfl, rfl, fun h => h.elim⟩ | exact ⟨_, rfl⟩ | exact ⟨_, 0, rfl⟩
    · rw [if_neg h0, if_neg h0]
      simp only [go_sem]
      refine LL.st good_E0 (fun i : Nat => 2 - i) (fun i => i = 0 ∨ i = 1 ∨ i = 2)
        (fun i => [((.i (.i .z)), .slice (H.key 0) 0 (match i with | 0 => 0 | 1 => xs.length | _ => xs.length + ys.length) 4 false (xs.length + ys.length)), ((.o (.i (.o (.i .z)))), .slice k 0 2 1 ex cap), ((.i (.i (.o (.i .z)))), .int .i64 2), ((.o (.o (.i (.i .z)))), .int .i64 i)])
        (fun i => [.row true 4 (match i with | 0 => List.replicate (xs.length + ys.length) [AV.str [], AV.int .i64 0, AV.str [], AV.bool false] | 1 => xs.map Evn.enc ++ List.replicate ys.length [AV.str [], AV.int .i64 0, AV.str [], AV.bool false] | _ => xs.map Evn.enc ++ ys.map Evn.enc)]) ?_ 0 (σ := [0]) (Wk.of rfl (by decide) (by simp only [go_sem, hrk]; first | done | rfl) (by simp only [go_sem, List.map_replicate])) (.inl rfl)
      rintro i (rfl | rfl | rfl)
      · simp only [go_sem, ↓appR_hide, hgo]
        rw [appQ_fit (by decide) (Heap.ok_ext hok _) rfl (by rw [List.length_replicate]) (by rw [List.length_map]; omega) (hA.ext _)]
        rw [show (List.replicate (xs.length + ys.length) [AV.str [], AV.int .i64 0, AV.str [], AV.bool false]).take 0 ++ xs.map Evn.enc ++ (List.replicate (xs.length + ys.length) [AV.str [], AV.int .i64 0, AV.str [], AV.bool false]).drop (0 + (xs.map Evn.enc).length) = xs.map Evn.enc ++ List.replicate ys.length [AV.str [], AV.int .i64 0, AV.str [], AV.bool false] by
          rw [List.take_zero, List.nil_append, List.length_map, Nat.zero_add, List.drop_replicate, Nat.add_sub_cancel_left], show 0 + (xs.map Evn.enc).length = xs.length by rw [List.length_map, Nat.zero_add]]
        simp only [go_sem]
        exact ⟨1, by decide, .inr (.inl rfl), _, [0], rfl, Wk.of rfl (by decide) (by simp only [go_sem, hrk, hs1]; first | done | exact ⟨rfl, rfl⟩ | rfl) (by simp only [go_sem, Evn.map_rens, List.map_replicate])⟩
      · simp only [go_sem, ↓appR_hide, hgo, read_two]
        rw [appQ_fit (by decide) (Heap.ok_ext hok _) rfl (by rw [List.length_append, List.length_map, List.length_replicate]) (by rw [List.length_map]; omega) (hB.ext _)]
        rw [show (xs.map Evn.enc ++ List.replicate ys.length [AV.str [], AV.int .i64 0, AV.str [], AV.bool false]).take xs.length ++ ys.map Evn.enc ++ (xs.map Evn.enc ++ List.replicate ys.length [AV.str [], AV.int .i64 0, AV.str [], AV.bool false]).drop (xs.length + (ys.map Evn.enc).length) = xs.map Evn.enc ++ ys.map Evn.enc by
          rw [List.take_left' (List.length_map ..), List.drop_eq_nil_of_le (by rw [List.length_append, List.length_map, List.length_replicate, List.length_map]; exact Nat.le_refl _), List.append_nil], show xs.length + (ys.map Evn.enc).length = xs.length + ys.length by rw [List.length_map]]
        simp only [go_sem]
        exact ⟨2, by decide, .inr (.inr rfl), _, [0], rfl, Wk.of rfl (by decide) (by simp only [go_sem, hrk, hs2]; first | done | exact ⟨rfl, rfl⟩ | rfl) (by simp only [go_sem, Evn.map_rens, List.map_replicate])⟩
      · simp only [go_sem]
        have hpos : 0 < zs.length := by omega
        refine ⟨_, 0, ?_, rfl, fun _ => ?_⟩
        · rw [outV_pos hpos, hzl]
        · rw [outB_pos (by rw [List.length_map]; exact hpos), hz, List.map_append]; rfl
theorem f194_ok {k : K} {wr ex : Bool} {cap : Nat} {u v : AV} {xs ys : List Cell} (hk : H.get k = some (.row wr 1 [[u], [v]])) (hkk : k.toNat < H.nx.toNat) (hA : Arr H 5 u (xs.map Cell.enc)) (hB : Arr H 5 v (ys.map Cell.enc)) (hx : xs.length < 10000) (hy : ys.length < 10000) :
    FnOk Tryz.prog 194 [.slice k 0 2 1 ex cap] H fun r G => r = outV H.nx 5 (xs ++ ys).length ∧ G = H.ext [outB 5 ((xs ++ ys).map Cell.enc)] := by
  obtain ⟨zs, hz⟩ : ∃ zs, zs = xs ++ ys := ⟨_, rfl⟩
  rw [← hz]
  have hzl : zs.length = xs.length + ys.length := by rw [hz, List.length_append]
  refine FnOk.assume fun hok => ?_
  refine FnOk.dropO (List.length_map ..) (Cell.map_rens · _) ?_
  refine FnOk.of_WW Tryz.func194 rfl C194ok R194ok E0 good_E0 ?_
  have hgo := Heap.get_ext_old hok hk
  have hl1 := fun G => hA.len G
  have hl2 := fun G => hB.len G
  simp only [List.length_map] at hl1 hl2
  have hrk : ∀ top σ, rho H top σ k = k := fun top σ => rho_old hkk
  simp only [go_sem, C194]
  refine LL.st good_E0 (fun s : Nat × Nat => 2 - s.1) (fun s => s = (0, 0) ∨ s = (1, xs.length) ∨ s = (2, xs.length + ys.length))
    (fun s => [(.z, .slice k 0 2 1 ex cap), ((.o (.o .z)), .int .i64 s.2), ((.o (.i (.o .z))), .slice k 0 2 1 ex cap), ((.i (.i (.o .z))), .int .i64 2), ((.o (.o (.i .z))), .int .i64 s.1)]) (fun s => []) ?_ (0, 0) (σ := []) (Wk.of rfl (by decide) (by simp only [go_sem, hrk]; first | done | exact ⟨rfl, rfl⟩) (by simp only [go_sem])) (.inl rfl)
  have hw0 : IntKind.i64.wrap (0 + (xs.length : Int)) = (xs.length : Int) := by rw [wrap_i64 (by omega) (by omega)]; omega
  have hw1 : IntKind.i64.wrap ((xs.length : Int) + (ys.length : Int)) = ((xs.length + ys.length : Nat) : Int) := by rw [wrap_i64 (by omega) (by omega)]; omega
  have hn0 : ¬ (xs.length : Int) < 0 := by omega
  have hn1 : ¬ ((xs.length + ys.length : Nat) : Int) < 0 := by omega
  have hs1 : IntKind.i64.wrap (0 + 1) = 1 := rfl
  have hs2 : IntKind.i64.wrap (1 + 1) = 2 := rfl
  rintro s (rfl | rfl | rfl)
  · simp only [go_sem, hgo, hl1, hw0, hn0]
    exact ⟨(1, xs.length), by show 2 - 1 < 2 - 0; omega, .inr (.inl rfl), _, [], rfl, Wk.of rfl (by decide) (by simp only [go_sem, hrk, hs1]; first | done | rfl) (by simp only [go_sem])⟩
  · simp only [go_sem, hgo, hl2, hw1, hn1, read_two]
    exact ⟨(2, xs.length + ys.length), by show 2 - 2 < 2 - 1; omega, .inr (.inr rfl), _, [], rfl, Wk.of rfl (by decide) (by simp only [go_sem, hrk, hs2]; first | done | rfl) (by simp only [go_sem])⟩
  · simp only [go_sem]
    refine CL.of (f220_ok (n := xs.length + ys.length) (by omega)) ?_
    rintro _ G' ⟨rfl, hG⟩
    rw [hG]
    clear hG
    by_cases h0 : xs.length + ys.length = 0
    · have hx0 : xs = [] := List.length_eq_zero_iff.1 (by omega)
      have hy0 : ys = [] := List.length_eq_zero_iff.1 (by omega)
      subst hx0 hy0
      obtain rfl : zs = [] := hz
      simp only [go_sem]
      refine LL.st good_E0 (fun i : Nat => 2 - i) (fun i => i = 0 ∨ i = 1 ∨ i = 2)
        (fun i => [((.i (.i .z)), .nils), ((.o (.i (.o (.i .z)))), .slice k 0 2 1 ex cap), ((.i (.i (.o (.i .z)))), .int .i64 2), ((.o (.o (.i (.i .z)))), .int .i64 i)]) (fun i => []) ?_ 0 (σ := []) (Wk.of rfl (by decide) (by simp only [go_sem, hrk]; first | done | rfl) (by simp only [go_sem])) (.inl rfl)
      rintro i (rfl | rfl | rfl)
      · simp only [go_sem, ↓appR_hide, hgo]
        rw [appQ_none (hA.ext _)]
        simp only [go_sem]
        exact ⟨1, by decide, .inr (.inl rfl), _, [], rfl, Wk.of rfl (by decide) (by simp only [go_sem, hrk, hs1]; first | done | rfl) (by simp only [go_sem])⟩
      · simp only [go_sem, ↓appR_hide, hgo, read_two]
        rw [appQ_none (hB.ext _)]
        simp only [go_sem]
        exact ⟨2, by decide, .inr (.inr rfl), _, [], rfl, Wk.of rfl (by decide) (by simp only [go_sem, hrk, hs2]; first | done | rfl) (by simp only [go_sem])⟩
      · simp only [go_sem]
        first | exact ⟨_, 0, rfl, rfl, fun h => h.elim⟩ | exact ⟨_, rfl⟩ | exact ⟨_, 0, rfl⟩
    · rw [if_neg h0, if_neg h0]
      simp only [go_sem]
      refine LL.st good_E0 (fun i : Nat => 2 - i) (fun i => i = 0 ∨ i = 1 ∨ i = 2)
        (fun i => [((.i (.i .z)), .slice (H.key 0) 0 (match i with | 0 => 0 | 1 => xs.length | _ => xs.length + ys.length) 5 false (xs.length + ys.length)), ((.o (.i (.o (.i .z)))), .slice k 0 2 1 ex cap), ((.i (.i (.o (.i .z)))), .int .i64 2), ((.o (.o (.i (.i .z)))), .int .i64 i)])
        (fun i => [.row true 5 (match i with | 0 => List.replicate (xs.length + ys.length) [AV.str [], AV.str [], AV.int .i64 0, AV.bool false, AV.int .i64 0] | 1 => xs.map Cell.enc ++ List.replicate ys.length [AV.str [], AV.str [], AV.int .i64 0, AV.bool false, AV.int .i64 0] | _ => xs.map Cell.enc ++ ys.map Cell.enc)]) ?_ 0 (σ := [0]) (Wk.of rfl (by decide) (by simp only [go_sem, hrk]; first | done | rfl) (by simp only [go_sem, List.map_replicate])) (.inl rfl)
      rintro i (rfl | rfl | rfl)
      · simp only [go_sem, ↓appR_hide, hgo]
        rw [appQ_fit (by decide) (Heap.ok_ext hok _) rfl (by rw [List.length_replicate]) (by rw [List.length_map]; omega) (hA.ext _)]
        rw [show (List.replicate (xs.length + ys.length) [AV.str [], AV.str [], AV.int .i64 0, AV.bool false, AV.int .i64 0]).take 0 ++ xs.map Cell.enc ++ (List.replicate (xs.length + ys.length) [AV.str [], AV.str [], AV.int .i64 0, AV.bool false, AV.int .i64 0]).drop (0 + (xs.map Cell.enc).length) = xs.map Cell.enc ++ List.replicate ys.length [AV.str [], AV.str [], AV.int .i64 0, AV.bool false, AV.int .i64 0] by
          rw [List.take_zero, List.nil_append, List.length_map, Nat.zero_add, List.drop_replicate, Nat.add_sub_cancel_left], show 0 + (xs.map Cell.enc).length = xs.length by rw [List.length_map, Nat.zero_add]]
        simp only [go_sem]
        exact ⟨1, by decide, .inr (.inl rfl), _, [0], rfl, Wk.of rfl (by decide) (by simp only [go_sem, hrk, hs1]; first | done | exact ⟨rfl, rfl⟩ | rfl) (by simp only [go_sem, Cell.map_rens, List.map_replicate])⟩
      · simp only [go_sem, ↓appR_hide, hgo, read_two]
        rw [appQ_fit (by decide) (Heap.ok_ext hok _) rfl (by rw [List.length_append, List.length_map, List.length_replicate]) (by rw [List.length_map]; omega) (hB.ext _)]
        rw [show (xs.map Cell.enc ++ List.replicate ys.length [AV.str [], AV.str [], AV.int .i64 0, AV.bool false, AV.int .i64 0]).take xs.length ++ ys.map Cell.enc ++ (xs.map Cell.enc ++ List.replicate ys.length [AV.str [], AV.str [], AV.int .i64 0, AV.bool false, AV.int .i64 0]).drop (xs.length + (ys.map Cell.enc).length) = xs.map Cell.enc ++ ys.map Cell.enc by
          rw [List.take_left' (List.length_map ..), List.drop_eq_nil_of_le (by rw [List.length_append, List.length_map, List.length_replicate, List.length_map]; exact Nat.le_refl _), List.append_nil], show xs.length + (ys.map Cell.enc).length = xs.length + ys.length by rw [List.length_map]]
        simp only [go_sem]
        exact ⟨2, by decide, .inr (.inr rfl), _, [0], rfl, Wk.of rfl (by decide) (by simp only [go_sem, hrk, hs2]; first | done | exact ⟨rfl, rfl⟩ | rfl) (by simp only [go_sem, Cell.map_rens, List.map_replicate])⟩
      · simp only [go_sem]
        have hpos : 0 < zs.length := by omega
        refine ⟨_, 0, ?_, rfl, fun _ => ?_⟩
        · rw [outV_pos hpos, hzl]
        · rw [outB_pos (by rw [List.length_map]; exact hpos), hz, List.map_append]; rfl
end Go.Proofs
/- a shard as the law has it; few; cut: what fits: walked. -/

set_option linter.all false
set_option linter.all false
set_option maxRecDepth 100000
namespace Go.Proofs
open Go Go.Ev
variable {H : Heap}

theorem errV_ren (a : Option Int) (ρ : K → K) : AV.ren ρ (errV a) = errV a := by cases a <;> simp only [errV, AV.ren]
theorem f185_ok {s : Sh} (h : s.ok H) : FnOk Tryz.prog 185 [.agg s.enc] H fun r G => r = errV (if isSh s ∧ ¬ s.frz = true then none else some 10) ∧ G = H := by
  refine FnOk.drop (R := fun r => r = errV (if isSh s ∧ ¬ s.frz = true then none else some 10)) ?_ (by rintro v rfl ρ; rw [errV_ren])
  refine FnOk.of_WW Tryz.func185 rfl C185ok R185ok E0 good_E0 ?_
  simp only [go_sem, C185, Sh.enc]
  refine CL.bool (f69_ok (h.ext _)) (fun g => ?_) (fun g => ?_)
  · simp only [go_sem]
    exact ⟨fun e => ⟨by rw [if_neg fun h => h.2 e]; rfl, _, rfl⟩, fun e => ⟨by rw [if_pos ⟨g, by rw [e]; decide⟩]; rfl, _, rfl⟩⟩
  · simp only [go_sem]
    exact ⟨by rw [if_neg fun h => g h.1]; rfl, _, rfl⟩
end Go.Proofs
/- cut: what is in a part; clones: walked. -/

set_option linter.all false
set_option linter.all false
set_option maxRecDepth 100000
namespace Go.Proofs
open Go Go.Ev
variable {H : Heap}

/-- blocks that are let go, the others renamed -/
theorem FnOk.dropW {f : FuncId} {args : List AV} {V : AV} {bs : List Blk} (h : FnOk Tryz.prog f args H fun v G => ∃ l σ, v = V.ren (rho H l.length σ) ∧ G = H.ext l ∧ bs.length = σ.length ∧ σ.Nodup ∧ WkB l (rho H l.length σ) bs σ) :
    FnOk Tryz.prog f args H fun v G => v = V ∧ G = H.ext bs := by
  refine h.wk ?_
  rintro v G ⟨l, σ, hv, hG, h1, h2, h3⟩
  exact ⟨l, bs, σ, V, hG, hv, h1, h2, h3.all, rfl, rfl⟩
def nilB (v : AV) : Bool := match v with | .nils => true | _ => false
theorem FnOk.dropZd {z : Bool} {f : FuncId} {args : List AV} {esz n : Nat} {xs : List (List AV)} (hn : xs.length = n) (hx : ∀ top σ, xs.map (AV.rens (rho H top σ)) = xs)
    (h : FnOk Tryz.prog f args H fun v G => ∃ l i, v = zV z (H.key i) esz n ∧ G = H.ext l ∧ ((zB z esz xs).live → l[i]? = some (zB z esz xs))) :
    FnOk Tryz.prog f args H fun v G => v = zV z H.nx esz n ∧ G = H.ext [zB z esz xs] := by
  subst hn
  refine h.wk ?_
  rintro v G ⟨l, i, rfl, rfl, hl⟩
  refine ⟨l, [zB z esz xs], [i], zV z H.nx esz xs.length, rfl, ?_, rfl, by simp, ?_, rfl, rfl⟩
  · rw [zV_ren, ← Heap.key_zero, rho_key rfl]
  · intro p hp
    simp only [List.zip_cons_cons, List.zip_nil_left, List.mem_singleton] at hp
    subst hp
    intro hlive
    show l[i]? = some (Blk.ren _ (zB z esz xs))
    rw [zB_ren _ (hx _ _), hl hlive]
theorem clone_zd {f : FuncId} {esz bytes : Nat} {zero : List AV} (hf : CloFn Tryz.prog f esz bytes zero) {v : AV} {xs : List (List AV)} (hA : Arr H esz v xs) (hb : (2 * xs.length + 192) * bytes ≤ 281474976710656) (hx : ∀ top σ, xs.map (AV.rens (rho H top σ)) = xs) :
    FnOk Tryz.prog f [v] H fun r G => r = zV (nilB v) H.nx esz xs.length ∧ G = H.ext [zB (nilB v) esz xs] := by
  refine FnOk.dropZd rfl hx ?_
  rcases hA with ⟨rfl, rfl⟩ | ⟨k, off, ex, cap, rfl, hk, h⟩
  · refine (clone_nil hf).mono ?_
    rintro v G ⟨rfl, rfl⟩
    exact ⟨[], 0, rfl, (Heap.ext_nil _).symm, fun h => h.elim⟩
  · rcases Nat.eq_zero_or_pos xs.length with h0 | h0
    · obtain rfl := List.length_eq_zero_iff.1 h0
      refine (clone_zero hf).mono ?_
      rintro v G ⟨rfl, rfl⟩
      exact ⟨_, 0, rfl, rfl, fun _ => rfl⟩
    · obtain ⟨r, wr, rows, rfl, hg, hrow⟩ := h (by intro e; rw [e] at h0; simp at h0)
      have hn : r + xs.length ≤ rows.length := by
        have := congrArg List.length hrow
        rw [List.length_take, List.length_drop] at this
        omega
      have key := clone_arr hf hg hn h0 hb (ex := ex) (cap := cap)
      rw [hrow] at key
      refine key.mono ?_
      rintro v G ⟨rfl, rfl⟩
      exact ⟨_, 1, (zV_pos h0).symm, rfl, fun _ => by rw [zB_pos h0]; rfl⟩
theorem zV_nil_o (k j : K) (esz n : Nat) : zV (nilB (outV k esz n)) j esz n = outV j esz n := by cases n <;> rfl
theorem zB_nil_o (k : K) (esz : Nat) (xs : List (List AV)) : zB (nilB (outV k esz xs.length)) esz xs = outB esz xs := by cases xs <;> rfl
/-- what is nil where it is empty is cloned so -/
theorem clone_o {f : FuncId} {esz bytes : Nat} {zero : List AV} (hf : CloFn Tryz.prog f esz bytes zero) {k : K} {xs : List (List AV)} {n : Nat} (hn : xs.length = n) (hA : Arr H esz (outV k esz n) xs) (hb : (2 * n + 192) * bytes ≤ 281474976710656) (hx : ∀ top σ, xs.map (AV.rens (rho H top σ)) = xs) :
    FnOk Tryz.prog f [outV k esz n] H fun r G => r = outV H.nx esz n ∧ G = H.ext [outB esz xs] := by
  subst hn
  have := clone_zd hf hA hb hx
  rw [zV_nil_o, zB_nil_o] at this
  exact this
theorem clo74 : CloFn Tryz.prog 101 5 56 [.str [], .str [], .int .i64 0, .bool false, .int .i64 0] := ⟨⟨Tryz.f101, Tryz.func101, by kernel_rfl, by kernel_rfl⟩, rfl, by decide⟩
theorem clo75 : CloFn Tryz.prog 102 4 48 [.str [], .int .i64 0, .str [], .bool false] := ⟨⟨Tryz.f102, Tryz.func102, by kernel_rfl, by kernel_rfl⟩, rfl, by decide⟩
theorem f218_at {v : AV} {l : List Cell} (hA : Arr H 5 v (l.map Cell.enc)) (hl : l.length < 4294967296) (f t : List Nat) :
    FnOk Tryz.prog 218 [v, .agg [.str f, .str t]] H fun r G => r = outV H.nx 5 (withinL f t l).length ∧ G = H.ext [outB 5 ((withinL f t l).map Cell.enc)] := by
  refine FnOk.dropO (List.length_map ..) (Cell.map_rens · _) ?_
  refine (f218_ok hA hl f t).mono ?_
  rintro v G ⟨rfl, rfl⟩
  refine ⟨_, 0, by rw [Heap.key_zero], rfl, ?_⟩
  cases withinL f t l with
  | nil => intro h; exact h.elim
  | cons x xs => intro _; rfl
@[go_sem] theorem agg_o {β : Type} (k : K) (e n : Nat) (f : β) (c : List AV → β) : asAggC (outV k e n) f c = f := by cases n <;> rfl
@[go_sem] theorem one_o (k : K) (e n : Nat) : AV.one (outV k e n) = true := by cases n <;> rfl
@[go_sem] theorem agg_z {β : Type} (z : Bool) (k : K) (e n : Nat) (f : β) (c : List AV → β) : asAggC (zV z k e n) f c = f := by cases n <;> cases z <;> rfl
@[go_sem] theorem one_z (z : Bool) (k : K) (e n : Nat) : AV.one (zV z k e n) = true := by cases n <;> cases z <;> rfl
@[go_sem] theorem rho_key4 (top i0 i1 i2 i3 j : Nat) (σ : List Nat) : rho H top (i0 :: i1 :: i2 :: i3 :: j :: σ) (H.key 4) = H.key j := rho_key rfl
@[go_sem] theorem rho_key5 (top i0 i1 i2 i3 i4 j : Nat) (σ : List Nat) : rho H top (i0 :: i1 :: i2 :: i3 :: i4 :: j :: σ) (H.key 5) = H.key j := rho_key rfl
@[go_sem] theorem rho_key6 (top i0 i1 i2 i3 i4 i5 j : Nat) (σ : List Nat) : rho H top (i0 :: i1 :: i2 :: i3 :: i4 :: i5 :: j :: σ) (H.key 6) = H.key j := rho_key rfl
@[go_sem] theorem rho_key7 (top i0 i1 i2 i3 i4 i5 i6 j : Nat) (σ : List Nat) : rho H top (i0 :: i1 :: i2 :: i3 :: i4 :: i5 :: i6 :: j :: σ) (H.key 7) = H.key j := rho_key rfl
@[go_sem] theorem rho_key8 (top i0 i1 i2 i3 i4 i5 i6 i7 j : Nat) (σ : List Nat) : rho H top (i0 :: i1 :: i2 :: i3 :: i4 :: i5 :: i6 :: i7 :: j :: σ) (H.key 8) = H.key j := rho_key rfl
@[go_sem] theorem rho_key9 (top i0 i1 i2 i3 i4 i5 i6 i7 i8 j : Nat) (σ : List Nat) : rho H top (i0 :: i1 :: i2 :: i3 :: i4 :: i5 :: i6 :: i7 :: i8 :: j :: σ) (H.key 9) = H.key j := rho_key rfl
@[go_sem] theorem rho_key10 (top i0 i1 i2 i3 i4 i5 i6 i7 i8 i9 j : Nat) (σ : List Nat) : rho H top (i0 :: i1 :: i2 :: i3 :: i4 :: i5 :: i6 :: i7 :: i8 :: i9 :: j :: σ) (H.key 10) = H.key j := rho_key rfl
@[go_sem] theorem rho_key11 (top i0 i1 i2 i3 i4 i5 i6 i7 i8 i9 i10 j : Nat) (σ : List Nat) : rho H top (i0 :: i1 :: i2 :: i3 :: i4 :: i5 :: i6 :: i7 :: i8 :: i9 :: i10 :: j :: σ) (H.key 11) = H.key j := rho_key rfl
@[go_sem] theorem rho_key12 (top i0 i1 i2 i3 i4 i5 i6 i7 i8 i9 i10 i11 j : Nat) (σ : List Nat) : rho H top (i0 :: i1 :: i2 :: i3 :: i4 :: i5 :: i6 :: i7 :: i8 :: i9 :: i10 :: i11 :: j :: σ) (H.key 12) = H.key j := rho_key rfl
@[go_sem] theorem rho_key13 (top i0 i1 i2 i3 i4 i5 i6 i7 i8 i9 i10 i11 i12 j : Nat) (σ : List Nat) : rho H top (i0 :: i1 :: i2 :: i3 :: i4 :: i5 :: i6 :: i7 :: i8 :: i9 :: i10 :: i11 :: i12 :: j :: σ) (H.key 13) = H.key j := rho_key rfl
/-- the events within a span -/
noncomputable def evW (f t : List Nat) (l : List Evn) : List Evn := l.filter fun e => decide (has f t e.key)
theorem evW_yes {f t : List Nat} {l : List Evn} {i : Nat} {c : Evn} (h : l[i]? = some c) (h2 : has f t c.key) : evW f t (l.take (i + 1)) = evW f t (l.take i) ++ [c] := by
  rw [take_next h]; simp [evW, h2]
theorem evW_no {f t : List Nat} {l : List Evn} {i : Nat} {c : Evn} (h : l[i]? = some c) (h2 : ¬ has f t c.key) : evW f t (l.take (i + 1)) = evW f t (l.take i) := by
  rw [take_next h]; simp [evW, h2]
theorem evW_len (f t : List Nat) (l : List Evn) (i : Nat) : (evW f t (l.take i)).length ≤ i := Nat.le_trans (List.length_filter_le _ _) (by simp; omega)
/-- a part of a shard -/
noncomputable def partS (s : Sh) (id : Int) (f t : List Nat) (k0 k1 k2 : K) : Sh := ⟨id, 1, f, t, false, withinL f t s.cells, evW f t s.evs, s.done, outV k0 5 (withinL f t s.cells).length, outV k1 4 (evW f t s.evs).length, zV (nilB s.dv) k2 6 s.done.length⟩
noncomputable def partB (s : Sh) (f t : List Nat) : List Blk := [outB 5 ((withinL f t s.cells).map Cell.enc), outB 4 ((evW f t s.evs).map Evn.enc), zB (nilB s.dv) 6 (s.done.map Dn.enc)]
theorem f188_ok {s : Sh} (h : s.ok H) (hdl : s.done.length < 100000) (hel : s.evs.length < 100000) (id : Int) (f t : List Nat) :
    FnOk Tryz.prog 188 [.agg s.enc, .int .i64 id, .agg [.str f, .str t]] H fun r G => r = .agg (partS s id f t (H.key 0) (H.key 1) (H.key 2)).enc ∧ G = H.ext (partB s f t) := by
  refine FnOk.assume fun hok => ?_
  refine FnOk.dropW ?_
  refine FnOk.of_WW Tryz.func188 rfl C188ok R188ok E0 good_E0 ?_
  have hA := h.e
  have hlen := fun G => hA.len G
  simp only [List.length_map] at hlen
  have cren := h.c.ren
  have eren := h.e.ren
  have dren := h.d.ren
  have drens := h.dok.rens
  simp only [go_sem, C188, Sh.enc]
  refine CL.of (f191_ok id 1 f t) ?_
  rintro _ G' ⟨rfl, hG⟩
  rw [hG]
  clear hG
  simp only [go_sem]
  refine CL.of (f218_at (h.c.ext _) h.cl f t) ?_
  rintro _ _ ⟨rfl, rfl⟩
  simp only [go_sem, hlen]
  refine LL.st good_E0 (fun i : Nat => s.evs.length - i) (fun i => i ≤ s.evs.length)
    (fun i => [((.o (.o .z)), .ptr (H.key 0) 0), ((.o (.i .z)), .ptr (H.key 1) 0), ((.i (.i .z)), .ptr (H.key 2) 0), ((.o (.o (.o .z))), .ptr (H.key 3) 0), ((.o (.o (.i (.o .z)))), s.ev), ((.i (.o (.i (.o .z)))), .int .i64 s.evs.length), ((.o (.i (.i (.o .z)))), .int .i64 i)])
    (fun i => [.row true 8 [[.int .i64 s.id, .int .i64 s.ep, .str s.fr, .str s.to, .bool s.frz, s.cv, s.ev, s.dv]], .row true 2 [[.str f, .str t]], .row true 8 [[.int .i64 0, .int .i64 0, .str [], .str [], .bool false, .nils, .nils, .nils]],
      .row true 8 [[.int .i64 id, .int .i64 1, .str f, .str t, .bool false, outV (H.key 4) 5 (withinL f t s.cells).length, outV (H.key 5) 4 (evW f t (s.evs.take i)).length, .nils]], outB 5 ((withinL f t s.cells).map Cell.enc), outB 4 ((evW f t (s.evs.take i)).map Evn.enc)]) ?_ 0 (σ := [0, 1, 2, 3, 4, 5]) (Wk.of rfl (by decide) (by simp only [go_sem, cren, eren, dren]) (by simp only [go_sem, cren, eren, dren, outV_ren', evW, List.filter_nil, ↓outB_ren', Cell.map_rens, implies_true])) (Nat.zero_le _)
  rintro i hi
  by_cases hlt : i < s.evs.length
  · obtain ⟨kk, r, ex', cap', wr, rows, hv, hrho, hgo, hrow⟩ := hA.at hok (j := i) (by rw [List.length_map]; exact hlt)
    simp only [List.length_map, List.getElem_map] at hv hrow
    have hget : s.evs[i]? = some s.evs[i] := List.getElem?_eq_getElem hlt
    generalize s.evs[i] = e at hrow hget
    have hw := wrap_succ (n := i) (by omega)
    have hci : (i : Int) < (s.evs.length : Int) := (by omega)
    have hsi : i + 1 ≤ s.evs.length := (by omega)
    simp only [go_sem, hv, hci, hsi, hgo, hrow, hw, Evn.enc]
    refine CL.bool (f58_ok f t e.key) (fun g => ?_) (fun g => ?_)
    · have hnew := evW_yes hget g
      have hln := evW_len f t s.evs i
      simp only [go_sem, ↓appR_hide]
      refine RW_app _ [.str e.key, .int .i64 e.ver, .str e.val, .bool e.del] rfl (List.length_map ..) rfl (okBig_le (by omega) (by decide)) ?_
      simp only [go_sem, hw]
      rw [show outB 4 ((evW f t (s.evs.take i)).map Evn.enc ++ [[.str e.key, .int .i64 e.ver, .str e.val, .bool e.del]]) = outB 4 ((evW f t (s.evs.take i) ++ [e]).map Evn.enc) by rw [List.map_append]; rfl]
      refine ⟨i + 1, by show s.evs.length - (i + 1) < s.evs.length - i; omega, ?_, _, [0, 1, 2, 3, 4, 8], rfl, Wk.of rfl (by decide) (by simp only [go_sem, cren, hrho, dren]) (by simp only [go_sem, cren, hrho, dren, outV_ren', hnew, ↓outB_ren', Cell.map_rens, Evn.map_rens, Evn.rens, implies_true])⟩
      exact hsi
    · have hnew := evW_no hget g
      simp only [go_sem, hw]
      refine ⟨i + 1, by show s.evs.length - (i + 1) < s.evs.length - i; omega, ?_, _, [0, 1, 2, 3, 4, 5], rfl, Wk.of rfl (by decide) (by simp only [go_sem, cren, hrho, dren]) (by simp only [go_sem, cren, hrho, dren, outV_ren', hnew, ↓outB_ren', Cell.map_rens, Evn.map_rens, Evn.rens, implies_true])⟩
      exact hsi
  · have hci : ¬ (i : Int) < (s.evs.length : Int) := (by omega)
    have htk : s.evs.take i = s.evs := List.take_of_length_le (by omega)
    rw [htk]
    simp only [go_sem, hci]
    refine CL.of (clone_zd clo57 (h.d.ext _) (by rw [List.length_map]; omega) (h.dok.ext _).rens) ?_
    rintro _ _ ⟨rfl, rfl⟩
    simp only [go_sem]
    exact ⟨_, [4, 5, 6], by simp only [partS, outV_ren', zV_ren, go_sem], rfl, rfl, by decide, by simp only [partB, go_sem, ↓outB_ren', ↓zB_ren, drens, Cell.map_rens, Evn.map_rens, implies_true]⟩
end Go.Proofs
/- history.Keep: walked. -/

set_option linter.all false
set_option linter.all false
set_option maxRecDepth 100000
namespace Go.Proofs
open Go Go.Ev
variable {H : Heap}

/-- a cell whose floor an event lifts -/
def flo (e : Evn) (c : Cell) : Cell := if c.key = e.key then { c with floor := max c.floor e.ver } else c
def keepC (l : List Evn) (cs : List Cell) : List Cell := l.foldl (fun cs e => cs.map (flo e)) cs
theorem keepC_len (l : List Evn) : ∀ cs : List Cell, (keepC l cs).length = cs.length := by
  induction l with
  | nil => intro cs; rfl
  | cons e l ih => intro cs; show (keepC l (cs.map (flo e))).length = _; rw [ih, List.length_map]
theorem keepC_succ {l : List Evn} {i : Nat} {e : Evn} (h : l[i]? = some e) (cs : List Cell) : keepC (l.take (i + 1)) cs = (keepC (l.take i) cs).map (flo e) := by
  rw [take_next h, keepC, List.foldl_append]; rfl
def keepJ (e : Evn) (cs : List Cell) (j : Nat) : List Cell := (cs.take j).map (flo e) ++ cs.drop j
theorem keepJ_len (e : Evn) (cs : List Cell) {j : Nat} (hj : j ≤ cs.length) : (keepJ e cs j).length = cs.length := by
  unfold keepJ; rw [List.length_append, List.length_map, List.length_take, List.length_drop]; omega
theorem keepJ_at {e : Evn} {cs : List Cell} {j : Nat} {c : Cell} (h : cs[j]? = some c) : (keepJ e cs j)[j]? = some c := by
  have hj := (List.getElem?_eq_some_iff.1 h).1
  unfold keepJ
  rw [List.getElem?_append_right (by rw [List.length_map, List.length_take]; omega), List.length_map, List.length_take, List.getElem?_drop, show j + (j - min j cs.length) = j by omega, h]
theorem keepJ_next {e : Evn} {cs : List Cell} {j : Nat} {c : Cell} (h : cs[j]? = some c) : keepJ e cs (j + 1) = (keepJ e cs j).set j (flo e c) := by
  have hj := (List.getElem?_eq_some_iff.1 h).1
  unfold keepJ
  have hl : ((cs.take j).map (flo e)).length = j := by rw [List.length_map, List.length_take]; omega
  rw [List.set_append, if_neg (by omega), hl, Nat.sub_self, take_next h, List.map_append, List.append_assoc]
  congr 1
  have : cs.drop j = c :: cs.drop (j + 1) := by
    obtain ⟨hj, rfl⟩ := List.getElem?_eq_some_iff.1 h
    exact (List.drop_eq_getElem_cons hj)
  rw [this]; rfl
theorem clone_n {f : FuncId} {esz bytes : Nat} {zero : List AV} (hf : CloFn Tryz.prog f esz bytes zero) {v : AV} {xs : List (List AV)} {n : Nat} (hn : xs.length = n) (h0 : n = 0 → v = .nils) (hA : Arr H esz v xs) (hb : (2 * n + 192) * bytes ≤ 281474976710656) (hx : ∀ top σ, xs.map (AV.rens (rho H top σ)) = xs) :
    FnOk Tryz.prog f [v] H fun r G => r = outV H.nx esz n ∧ G = H.ext [outB esz xs] := by
  subst hn
  have := clone_zd hf hA hb hx
  cases xs with
  | nil => rw [h0 rfl] at this ⊢; exact this
  | cons x xs => exact this
theorem flo_no {e : Evn} {c : Cell} (h : ¬ c.key = e.key) : flo e c = c := if_neg h
theorem flo_yes {e : Evn} {c : Cell} (h : c.key = e.key) : (flo e c).enc = [.str c.key, .str c.value, .int .i64 c.ver, .bool c.del, .int .i64 (max c.floor e.ver)] := by rw [flo, if_pos h]; rfl
theorem set_self {α : Type} {l : List α} {j : Nat} {x : α} (h : l[j]? = some x) : l.set j x = l := by
  obtain ⟨hj, rfl⟩ := List.getElem?_eq_some_iff.1 h
  exact List.set_getElem_self hj
theorem f192_ok {k : K} {v u : AV} {xs : List Evn} {cs : List Cell} (hv : v = outV k 4 xs.length) {k' : K} (hu : u = outV k' 5 cs.length) (hA : Arr H 4 v (xs.map Evn.enc)) (hB : Arr H 5 u (cs.map Cell.enc)) (hx : xs.length < 100000) (hc : cs.length < 100000) :
    FnOk Tryz.prog 192 [v, u, .int .i64 24] H fun r G => r = .tup [outV (H.key 1) 4 (xs.drop (xs.length - 24)).length, outV (H.key 0) 5 cs.length] ∧ G = H.ext [outB 5 ((keepC (xs.take (xs.length - 24)) cs).map Cell.enc), outB 4 ((xs.drop (xs.length - 24)).map Evn.enc)] := by
  refine FnOk.assume fun hok => ?_
  refine FnOk.dropW ?_
  subst hu
  refine FnOk.of_WW Tryz.func192 rfl C192ok R192ok E0 good_E0 ?_
  have hlen := fun G => hA.len G
  simp only [List.length_map] at hlen
  have hren := hA.ren
  have m1 : max (24 : Int) 0 = 24 := rfl
  have m2 : IntKind.i64.wrap ((xs.length : Int) - 24) = (xs.length : Int) - 24 := wrap_i64 (by omega) (by omega)
  have m3 : max ((xs.length : Int) - 24) 0 = ((xs.length - 24 : Nat) : Int) := by omega
  obtain ⟨g, hg⟩ : ∃ g, g = xs.length - 24 := ⟨_, rfl⟩
  have hgl : g ≤ xs.length := by omega
  rw [← hg] at m3
  rw [← hg]
  obtain ⟨w1, w2, hs1, hs2, hA1, hn2, hA2⟩ : ∃ w1 w2, (∀ G, (asSliceC v R1.fail (if g = 0 then R1.val AV.nils G else R1.fail) fun k off len es ex cap =>
      if es = 4 ∧ 0 ≤ g ∧ g ≤ cap ∧ cap ≤ cap then
        bif' (ex && decide (cap - 0 = 0)) (R1.val (AV.slice k off (g - 0) es ex (cap - 0)) G) (R1.val (AV.slice k (off + 0 * es) (g - 0) es ex (cap - 0)) G)
      else R1.fail) = R1.val w1 G) ∧ (∀ G, (asSliceC v R1.fail (if g = 0 then R1.val AV.nils G else R1.fail) fun k off len es ex cap =>
      if es = 4 ∧ g ≤ len ∧ len ≤ cap ∧ cap ≤ cap then
        bif' (ex && decide (cap - g = 0)) (R1.val (AV.slice k off (len - g) es ex (cap - g)) G) (R1.val (AV.slice k (off + g * es) (len - g) es ex (cap - g)) G)
      else R1.fail) = R1.val w2 G) ∧ Arr H 4 w1 ((xs.take g).map Evn.enc) ∧ ((xs.drop g).length = 0 → w2 = .nils) ∧ Arr H 4 w2 ((xs.drop g).map Evn.enc) := by
    rcases Nat.eq_zero_or_pos xs.length with h0 | h0
    · obtain rfl := List.length_eq_zero_iff.1 h0
      have hg0 : g = 0 := by simpa using hg
      subst hv hg0
      refine ⟨.nils, .nils, fun G => rfl, fun G => rfl, .inl ⟨rfl, rfl⟩, fun _ => rfl, .inl ⟨rfl, rfl⟩⟩
    · have hvs : v = .slice k 0 xs.length 4 false xs.length := by rw [hv, outV_pos h0]
      have hgx : g < xs.length := by omega
      have hh := hA
      rw [hvs] at hh
      rcases hh with ⟨e, _⟩ | ⟨k1, off, ex, cap, e, hk, h⟩
      · cases e
      · obtain ⟨r, wr, rows, hr, hgk, hrow⟩ := h (by intro e; rw [List.map_eq_nil_iff] at e; rw [e] at h0; exact absurd h0 (by simp))
        rw [List.length_map] at e
        cases e
        obtain rfl : r = 0 := by omega
        simp only [List.drop_zero, List.length_map] at hrow
        refine ⟨.slice k 0 g 4 false xs.length, .slice k (g * 4) (xs.length - g) 4 false (xs.length - g), fun G => ?_, fun G => ?_, ?_, fun h => by rw [List.length_drop] at h; omega, ?_⟩
        · rw [hvs]
          show (if 4 = 4 ∧ 0 ≤ g ∧ g ≤ xs.length ∧ xs.length ≤ xs.length then R1.val (AV.slice k (0 + 0 * 4) (g - 0) 4 false (xs.length - 0)) G else R1.fail) = _
          rw [if_pos ⟨rfl, by omega, by omega, by omega⟩]; rfl
        · rw [hvs]
          show (if 4 = 4 ∧ g ≤ xs.length ∧ xs.length ≤ xs.length ∧ xs.length ≤ xs.length then R1.val (AV.slice k (0 + g * 4) (xs.length - g) 4 false (xs.length - g)) G else R1.fail) = _
          rw [if_pos ⟨rfl, by omega, by omega, by omega⟩, Nat.zero_add]
        · refine .inr ⟨k, 0, false, xs.length, by rw [List.length_map, List.length_take, Nat.min_eq_left hgl], hk, fun _ => ⟨0, wr, rows, by omega, hgk, ?_⟩⟩
          rw [List.drop_zero, List.map_take, ← hrow, List.length_take, List.take_take]
          congr 1
          rw [List.length_take]
          have := congrArg List.length hrow
          rw [List.length_take, List.length_map] at this
          omega
        · refine .inr ⟨k, g * 4, false, xs.length - g, by rw [List.length_map, List.length_drop], hk, fun _ => ⟨g, wr, rows, rfl, hgk, ?_⟩⟩
          rw [List.map_drop, ← hrow, List.length_drop, List.length_take, List.drop_take]
          congr 1
          have := congrArg List.length hrow
          rw [List.length_take, List.length_map] at this
          omega
  have hlen1 := fun G => hA1.len G
  simp only [List.length_map, List.length_take, Nat.min_eq_left hgl] at hlen1
  have hren1 := hA1.ren
  simp only [go_sem, C192, hlen, m1, m2, m3]
  refine CL.of (clone_o clo74 (List.length_map ..) (hB.ext _) (by omega) (fun _ _ => Cell.map_rens _ _)) ?_
  rintro _ _ ⟨rfl, rfl⟩
  simp only [go_sem, hlen, m1, m2, m3, hs1, hlen1]
  refine LL.st good_E0 (fun i : Nat => g - i) (fun i => i ≤ g)
    (fun i => [(.z, v), ((.i (.o (.o .z))), .int .i64 g), ((.o (.i (.o .z))), outV (H.key 0) 5 cs.length), ((.o (.o (.o (.i .z)))), w1), ((.i (.o (.o (.i .z)))), .int .i64 g), ((.o (.i (.o (.i .z)))), .int .i64 i)])
    (fun i => [outB 5 ((keepC (xs.take i) cs).map Cell.enc)]) ?_ 0 (σ := [0]) (Wk.of rfl (by decide) (by simp only [go_sem, hren, hren1, outV_ren']) (by simp only [go_sem, keepC, List.foldl_nil, ↓outB_ren', Cell.map_rens, implies_true])) (Nat.zero_le _)
  rintro i hi
  by_cases hlt : i < g
  · obtain ⟨kk, r, ex', cap', wr, rows, hv1, hrho, hgo, hrow⟩ := hA1.at hok (j := i) (by rw [List.length_map, List.length_take]; omega)
    simp only [List.length_map, List.getElem_map, List.length_take, Nat.min_eq_left hgl, List.getElem_take] at hv1 hrow
    have hget : xs[i]? = some (xs[i]'(by omega)) := List.getElem?_eq_getElem (by omega)
    generalize (xs[i]'(by omega)) = e at hrow hget
    have hw := wrap_succ (n := i) (by omega)
    have hci : (i : Int) < (g : Int) := (by omega)
    have hsi : i + 1 ≤ g := (by omega)
    have hcl := keepC_len (xs.take i) cs
    have hnew := keepC_succ hget cs
    generalize keepC (xs.take i) cs = X at hcl hnew
    simp only [go_sem, hv1, hci, hsi, hgo, hrow, hw, Evn.enc]
    refine LL.st good_E0 (fun j : Nat => cs.length - j) (fun j => j ≤ cs.length)
      (fun j => [(.z, v), ((.i (.o (.o .z))), .int .i64 g), ((.o (.i (.o .z))), outV (H.key 0) 5 cs.length), ((.o (.o (.i .z))), .ptr (H.key 1) 0), ((.o (.o (.o (.i .z)))), .slice kk (r * 4) g 4 ex' cap'), ((.i (.o (.o (.i .z)))), .int .i64 g), ((.o (.i (.o (.i .z)))), .int .i64 i), ((.i (.i (.i (.i .z)))), .int .i64 cs.length), ((.o (.o (.o (.o (.o .z))))), .int .i64 j)])
      (fun j => [outB 5 ((keepJ e X j).map Cell.enc), .row true 4 [[.str e.key, .int .i64 e.ver, .str e.val, .bool e.del]]]) ?_ 0 (σ := [0, 1]) (Wk.of rfl (by decide) (by simp only [go_sem, hren, hrho, outV_ren']) (by simp only [go_sem, keepJ, ↓outB_ren', Cell.map_rens, implies_true])) (Nat.zero_le _)
    rintro j hj
    by_cases hjt : j < cs.length
    · have hXj : X[j]? = some (X[j]'(by omega)) := List.getElem?_eq_getElem (by omega)
      generalize (X[j]'(by omega)) = c at hXj
      have hKj := keepJ_at (e := e) hXj
      have hKn := keepJ_next (e := e) hXj
      have hKl := keepJ_len e X (j := j) (by omega)
      generalize keepJ e X j = Y at hKj hKn hKl
      have hoB : outB 5 (Y.map Cell.enc) = .row true 5 (Y.map Cell.enc) := outB_pos (by rw [List.length_map]; omega)
      have hoV : outV (H.key 0) 5 cs.length = .slice (H.key 0) 0 cs.length 5 false cs.length := outV_pos (by omega)
      have hrow2 : (Y.map Cell.enc)[j]? = some c.enc := by rw [List.getElem?_map, hKj]; rfl
      have hjw := wrap_succ (n := j) (by omega)
      have hjc : (j : Int) < (cs.length : Int) := (by omega)
      have hjs : j + 1 ≤ cs.length := (by omega)
      simp only [go_sem, hjc, hjs, hoV, hoB, hrow2, hjw, Cell.enc]
      have hn1 : outB 5 ((keepJ e X (j + 1)).map Cell.enc) = .row true 5 ((Y.map Cell.enc).set j (flo e c).enc) := by
        rw [hKn, outB_pos (by rw [List.length_map, List.length_set]; omega), List.map_set]
      have hrn : ∀ top σ, List.map (AV.rens (rho H top σ)) ((Y.map Cell.enc).set j (flo e c).enc) = (Y.map Cell.enc).set j (flo e c).enc := fun top σ => by rw [← List.map_set]; exact Cell.map_rens _ _
      refine ⟨fun g1 => ⟨j + 1, by show cs.length - (j + 1) < cs.length - j; omega, hjs, _, [0, 1], rfl, Wk.of rfl (by decide) (by simp only [go_sem, hren, hrho]) ?_⟩, fun g1 => ⟨j + 1, by show cs.length - (j + 1) < cs.length - j; omega, hjs, _, [0, 1], rfl, Wk.of rfl (by decide) (by simp only [go_sem, hren, hrho]) ?_⟩⟩
      · dsimp only
        rw [hn1, ← flo_yes g1]
        refine ⟨fun _ => ?_, fun _ => rfl, trivial⟩
        show some _ = some (Blk.row true 5 (List.map (AV.rens _) _))
        rw [hrn]
      · rw [flo_no g1, set_self hrow2] at hn1 hrn
        dsimp only
        rw [hn1]
        refine ⟨fun _ => ?_, fun _ => rfl, trivial⟩
        show some _ = some (Blk.row true 5 (List.map (AV.rens _) _))
        rw [hrn]
    · have hjc : ¬ (j : Int) < (cs.length : Int) := (by omega)
      simp only [go_sem, hjc, hw]
      have hk2 : keepJ e X j = X.map (flo e) := by
        unfold keepJ
        rw [List.take_of_length_le (by omega), List.drop_eq_nil_of_le (by omega), List.append_nil]
      rw [hk2, ← hnew]
      refine ⟨i + 1, by show g - (i + 1) < g - i; omega, ?_, _, [0], rfl, Wk.of rfl (by decide) (by simp only [go_sem, hren, hrho, outV_ren']) (by simp only [go_sem, ↓outB_ren', Cell.map_rens, implies_true])⟩
      exact hsi
  · have hci : ¬ (i : Int) < (g : Int) := (by omega)
    simp only [go_sem, hci, hs2]
    obtain rfl : i = g := by omega
    refine CL.of (clone_n clo75 (List.length_map ..) hn2 (hA2.ext _) (by rw [List.length_drop]; omega) (fun _ _ => Evn.map_rens _ _)) ?_
    rintro _ _ ⟨rfl, rfl⟩
    simp only [go_sem]
    exact ⟨_, [0, 1], by simp only [outV_ren', go_sem], rfl, rfl, by decide, by simp only [go_sem, ↓outB_ren', Cell.map_rens, Evn.map_rens, implies_true]⟩
end Go.Proofs
