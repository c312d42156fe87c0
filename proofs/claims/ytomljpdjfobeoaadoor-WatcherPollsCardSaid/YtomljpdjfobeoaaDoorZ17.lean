/- errors.Is, where both are nil or numbers of a kind: by its contract. Written after the kit's worked text SentryIs. -/
import Derived.Test.YtomljpdjfobeoaaDoorZ16
import Derived.WalkKit
import Derived.LaidEql
import Derived.Lib.IfaceEq
import Derived.Stop.Asserts
import Derived.Stop.IfaceNil
import Derived.RowKitTokens
set_option linter.all false
namespace Go.Proofs
open Go.RowKit Go.Extern.Stop Go.Stop Go.Extern
theorem Tryd.isTypeOf (v : Value) (w : World) : (Extern.ReflectliteType.typeOf #[.iface 71 v]).run Tryd.prog w = .ok (.iface 147 (.agg #[.pointer (some ⟨1, 71, none⟩)])) w := by kernel_rfl
theorem Tryd.isComparable (w : World) : ((Extern.ReflectliteType.method fun t => do Rtype.noPackHeld "Comparable" t; (fun a => Value.bool a.comparable) <$> typeInfo t) #[.agg #[.pointer (some ⟨1, 71, none⟩)]]).run Tryd.prog w = .ok (.bool true) w := by kernel_rfl
theorem Tryd.isMethodComparable (v : Value) (w : World) : (Go.method 327 147 v "Comparable").run Tryd.prog w = .ok (144, v) w := by kernel_rfl
theorem Tryd.isComp : (Tryd.prog.info? 71).map (·.comparable) = some true := by kernel_rfl
theorem Tryd.noIs (v : Value) (xT : TypeId) (w : World) : (Instr.typeAssert (.iface 71 v) xT 149 true).run Tryd.prog w = .ok (.tuple #[.nilIface, .bool false]) w := run_typeAssert_lacksB Tryd.underlying149 (by kernel_rfl) (by kernel_rfl) v xT w
theorem Tryd.noUnwrap (v : Value) (xT : TypeId) (w : World) : (Instr.typeAssert (.iface 71 v) xT 152 true).run Tryd.prog w = .ok (.tuple #[.nilIface, .bool false]) w := run_typeAssert_lacksB Tryd.underlying152 (by kernel_rfl) (by kernel_rfl) v xT w
theorem Tryd.noUnwraps (v : Value) (xT : TypeId) (w : World) : (Instr.typeAssert (.iface 71 v) xT 154 true).run Tryd.prog w = .ok (.tuple #[.nilIface, .bool false]) w := run_typeAssert_lacksB Tryd.underlying154 (by kernel_rfl) (by kernel_rfl) v xT w
/-- errors.Is of two numbers -/
theorem is_num (a b : Int) (w : World) : Calls Tryd.prog 32 #[.iface 71 (.int .i64 a), .iface 71 (.int .i64 b)] w fun e w' => e = .returned (.bool (a == b)) ∧ w' = w := by
  have h61 := @run_callFunc_extern Tryd.prog 61 _ Extern.ReflectliteType.typeOf Tryd.func61 (by kernel_rfl) (by kernel_rfl) (by kernel_rfl) (by kernel_rfl)
  have h144 := @run_callFunc_extern Tryd.prog 144 _ (Extern.ReflectliteType.method fun t => do Rtype.noPackHeld "Comparable" t; pure (.bool (← typeInfo t).comparable)) Tryd.func144 (by kernel_rfl) (by kernel_rfl) (by kernel_rfl) (by kernel_rfl)
  have tT := Tryd.isTypeOf
  have cT := Tryd.isComparable
  have mR := Tryd.isMethodComparable
  have n1 := Tryd.noIs
  have n2 := Tryd.noUnwrap
  have n3 := Tryd.noUnwraps
  have heq := Go.Lib.run_eql_iface_int (P := Tryd.prog) (t := 26) (k := .i64) w a b Tryd.underlying26 Tryd.isComp Tryd.underlying71
  by_cases hab : a = b
  · subst hab
    rw [beq_self_eq_true] at heq ⊢
    go_enter Tryd.func32, Tryd.ntmps32
    go_wp2
    refine wp_loop_rounds 1 ?_
    rw [rounds_succ]
    go_wp2
    go_ret
    exact ⟨rfl, rfl⟩
  · rw [show (a == b) = false from beq_false_of_ne hab] at heq ⊢
    go_enter Tryd.func32, Tryd.ntmps32
    go_wp2
    refine wp_loop_rounds 1 ?_
    rw [rounds_succ]
    go_wp2
    go_ret
    exact ⟨rfl, rfl⟩
theorem is_nil (b : Int) (w : World) : Calls Tryd.prog 32 #[.nilIface, .iface 71 (.int .i64 b)] w fun e w' => e = .returned (.bool false) ∧ w' = w := by
  have hn := run_eql_iface_nil_left (P := Tryd.prog) w 71 (.int .i64 b) Tryd.underlying26
  go_enter Tryd.func32, Tryd.ntmps32
  go_wp2
  go_ret
  exact ⟨rfl, rfl⟩
end Go.Proofs
/- errors.As, where the error is a number of a kind and a number of that kind is asked for: by its contract. Turned by a program from the kit's worked text ToyasAs. -/

set_option linter.all false
namespace Go.Proofs
open Go.RowKit Go.Extern.Stop Go.Stop Go.Extern

/-! ### CLOSED FACTS ON THE MODEL's ENTRIES FOR internal/reflectlite, at this program's types: 25: *p.E · 27: **p.E · 23: error · 45: reflectlite's rtype · 1: how many package-level variables the dump has -/
theorem Tryd.as_valueOf27 (t : Addr) (w : World) : (ReflectliteValue.unpack (.iface 135 (.pointer (some t)))).run Tryd.prog w
    = .ok (.agg #[.pointer (some ⟨1, 135, none⟩), .pointer (some ⟨w.heap.size, 0, none⟩), .int .u64 150]) (w.alloc (.cells #[.pointer (some t)] 135)) := by kernel_rfl
theorem Tryd.as_type27 (a : Addr) (w : World) : (ReflectliteValue.methodAny (ReflectliteValue.valueError "reflectlite.Value.Type" 0) (fun t _ _ _ => ReflectliteType.toType t) #[.agg #[.pointer (some ⟨1, 135, none⟩), .pointer (some a), .int .u64 150]]).run Tryd.prog w
    = .ok (.iface 147 (.agg #[.pointer (some ⟨1, 135, none⟩)])) w := by kernel_rfl
theorem Tryd.as_methodKind (h : Value) (w : World) : (Go.method 327 147 (.agg #[h]) "Kind").run Tryd.prog w = .ok (138, h) w := by kernel_rfl
theorem Tryd.as_kind27 (w : World) : ((ReflectliteType.abiMethod fun t => (fun a : Nat => Value.int IntKind.u8 (a : Int)) <$> Rtype.kind t) #[.pointer (some ⟨1, 135, none⟩)]).run Tryd.prog w = .ok (.int .u8 22) w := by kernel_rfl
theorem Tryd.as_kind25 (w : World) : ((ReflectliteType.abiMethod fun t => (fun a : Nat => Value.int IntKind.u8 (a : Int)) <$> Rtype.kind t) #[.pointer (some ⟨1, 71, none⟩)]).run Tryd.prog w = .ok (.int .u8 2) w := by kernel_rfl

/-! ### THE ENTRIES THAT READ OR WRITE MEMORY: laws with a premise on the cell (after Derived/Lib/ReflectliteSlice.lean's manner: each unfolding a lemma of its own, by rfl) -/
theorem rlm (z : Sem Value) (f : TypeId → Addr → Nat → Nat → Sem Value) (v : Value) :
    ReflectliteValue.method z f #[v] = (do match ← ReflectliteValue.parts v with | none => z | some (t, a, fl) => f t a fl (fl % 32)) := rfl
theorem Tryd.as_parts27 (a : Addr) (w : World) : (ReflectliteValue.parts (.agg #[.pointer (some ⟨1, 135, none⟩), .pointer (some a), .int .u64 150])).run Tryd.prog w = .ok (some (135, a, 150)) w := by kernel_rfl
/-- (Value).IsNil at the Value of a **p.E that is not nil. -/
theorem Tryd.as_isNil27 (a p : Addr) (W : World) (ha : W.cell? a = some (.pointer (some p))) :
    (ReflectliteValue.method (ReflectliteValue.valueError "reflectlite.Value.IsNil" 0) ReflectliteValue.isNil #[.agg #[.pointer (some ⟨1, 135, none⟩), .pointer (some a), .int .u64 150]]).run Tryd.prog W = .ok (.bool false) W := by
  rw [rlm]
  simp only [Sem.run_bind, Tryd.as_parts27, Result.andThen]
  simp [ReflectliteValue.isNil, loadVar, isAgg, underlying, Tryd.underlying135, ha, Result.andThen]

theorem Tryd.as_methodElem (h : Value) (w : World) : (Go.method 327 147 (.agg #[h]) "Elem").run Tryd.prog w = .ok (145, .agg #[h]) w := by kernel_rfl
theorem Tryd.as_methodImplements (h : Value) (w : World) : (Go.method 327 147 (.agg #[h]) "Implements").run Tryd.prog w = .ok (146, .agg #[h]) w := by kernel_rfl
theorem Tryd.as_methodAssignableTo (h : Value) (w : World) : (Go.method 327 147 (.agg #[h]) "AssignableTo").run Tryd.prog w = .ok (143, .agg #[h]) w := by kernel_rfl
theorem Tryd.as_elem27 (w : World) : (ReflectliteType.method ReflectliteType.elem #[.agg #[.pointer (some ⟨1, 135, none⟩)]]).run Tryd.prog w = .ok (.iface 147 (.agg #[.pointer (some ⟨1, 71, none⟩)])) w := by kernel_rfl
theorem Tryd.as_implements25 (w : World) : (ReflectliteType.relation "Implements" ReflectliteType.implements_ #[.agg #[.pointer (some ⟨1, 71, none⟩)], .iface 147 (.agg #[.pointer (some ⟨1, 26, none⟩)])]).run Tryd.prog w = .ok (.bool true) w := by kernel_rfl
theorem Tryd.as_typeOf25 (v : Value) (w : World) : (ReflectliteType.typeOf #[.iface 71 v]).run Tryd.prog w = .ok (.iface 147 (.agg #[.pointer (some ⟨1, 71, none⟩)])) w := by kernel_rfl
theorem Tryd.as_assignable25 (w : World) : (ReflectliteType.relation "AssignableTo" ReflectliteType.assignableTo #[.agg #[.pointer (some ⟨1, 71, none⟩)], .iface 147 (.agg #[.pointer (some ⟨1, 71, none⟩)])]).run Tryd.prog w = .ok (.bool true) w := by kernel_rfl
theorem Tryd.as_valueOf25 (e : Int) (w : World) : (ReflectliteValue.unpack (.iface 71 (.int .i64 e))).run Tryd.prog w
    = .ok (.agg #[.pointer (some ⟨1, 71, none⟩), .pointer (some ⟨w.heap.size, 0, none⟩), .int .u64 130]) (w.alloc (.cells #[.int .i64 e] 71)) := by kernel_rfl

theorem Tryd.as_elemOf27 (w : World) : (Rtype.elem? 135).run Tryd.prog w = .ok (some 71) w := by kernel_rfl
theorem Tryd.as_mk25 (p : Addr) (w : World) : (ReflectliteValue.mk 71 p ReflectliteValue.flagAddr).run Tryd.prog w = .ok (.agg #[.pointer (some ⟨1, 71, none⟩), .pointer (some p), .int .u64 386]) w := by kernel_rfl
/-- (Value).Elem at the Value of a **p.E that is not nil: the Value of the *p.E variable that it points to, addressable. -/
theorem Tryd.as_elemV27 (a p : Addr) (W : World) (ha : W.cell? a = some (.pointer (some p))) :
    (ReflectliteValue.method (ReflectliteValue.valueError "reflectlite.Value.Elem" 0) ReflectliteValue.elem #[.agg #[.pointer (some ⟨1, 135, none⟩), .pointer (some a), .int .u64 150]]).run Tryd.prog W
      = .ok (.agg #[.pointer (some ⟨1, 71, none⟩), .pointer (some p), .int .u64 386]) W := by
  rw [rlm]
  simp only [Sem.run_bind, Tryd.as_parts27, Result.andThen]
  simp [ReflectliteValue.elem, loadVar, isAgg, underlying, Tryd.underlying135, ha, Result.andThen, Tryd.as_elemOf27, Tryd.as_mk25]
theorem rls (v x : Value) : ReflectliteValue.set #[v, x] = (do
    let (some (dst, a, fl), some (src, b, _)) := (← ReflectliteValue.parts v, ← ReflectliteValue.parts x)
      | unsupported (.noEntry "extern/(internal/reflectlite.Value).Set.zeroValue")
    if fl / ReflectliteValue.flagAddr % 2 == 0 then unsupported (.noEntry "extern/(internal/reflectlite.Value).Set.unaddressable")
    let val ← loadVar src b
    if ← Rtype.directlyAssignable dst src then storeVar dst a val
    else if ← Rtype.implements dst src then
      if (← Rtype.kind src) == 20 then
        match val with
        | .nilIface => unsupported (.noEntry "extern/reflectlite: a nil value of one interface type handed on as a value of another")
        | _ => storeVar dst a val
      else storeVar dst a (.iface src val)
    else panicString ("reflectlite.Set: value of type " ++ (← Rtype.spelt src) ++ " is not assignable to type " ++ (← Rtype.spelt dst))
    pure (.tuple #[])) := rfl
theorem Tryd.as_parts25a (a : Addr) (w : World) : (ReflectliteValue.parts (.agg #[.pointer (some ⟨1, 71, none⟩), .pointer (some a), .int .u64 386])).run Tryd.prog w = .ok (some (71, a, 386)) w := by kernel_rfl
theorem Tryd.as_parts25 (a : Addr) (w : World) : (ReflectliteValue.parts (.agg #[.pointer (some ⟨1, 71, none⟩), .pointer (some a), .int .u64 130])).run Tryd.prog w = .ok (some (71, a, 130)) w := by kernel_rfl
theorem Tryd.as_direct25 (w : World) : (Rtype.directlyAssignable 71 71).run Tryd.prog w = .ok true w := by kernel_rfl
/-- (Value).Set: the *p.E variable at 'ta' gets what the Value's own variable 'b' holds. -/
theorem Tryd.as_set25 (ta b : Addr) (e : Int) (old : Value) (W : World) (hb : W.cell? b = some (.int .i64 e)) (ht : W.cell? ta = some old) (hf : W.frozen? ta = false) :
    (ReflectliteValue.set #[.agg #[.pointer (some ⟨1, 71, none⟩), .pointer (some ta), .int .u64 386], .agg #[.pointer (some ⟨1, 71, none⟩), .pointer (some b), .int .u64 130]]).run Tryd.prog W
      = .ok (.tuple #[]) (W.setCell ta (.int .i64 e)) := by
  rw [rls]
  simp only [Sem.run_bind, Tryd.as_parts25a, Tryd.as_parts25, Result.andThen]
  simp [ReflectliteValue.flagAddr, loadVar, isAgg, underlying, Tryd.underlying71, hb, Result.andThen, Tryd.as_direct25, storeVar, Value.cells, storeCells, Addr.add]
  rw [run_store Tryd.prog W ta _ _ (by rfl)]
  simp [ht, hf]

set_option maxHeartbeats 4000000 in
theorem as_hit (e : Int) (t : Addr) (old : Value) (w : World) (hg : w.cell? ⟨0, 0, none⟩ = some (.iface 147 (.agg #[.pointer (some ⟨1, 26, none⟩)]))) (ht0 : w.cell? t = some old) (hf0 : w.frozen? t = false) :
    Calls Tryd.prog 73 #[.iface 71 (.int .i64 e), .iface 135 (.pointer (some t))] w fun ev w' => ev = .returned (.bool true) ∧ w' = ((((w.alloc (.cells #[.pointer (some t)] 135)).alloc (.cells #[.pointer (some ⟨1, 135, none⟩), .pointer (some ⟨w.heap.size, 0, none⟩), .int .u64 150] 165)).alloc (.cells #[.pointer (some ⟨1, 135, none⟩), .pointer (some ⟨w.heap.size, 0, none⟩), .int .u64 150] 165)).alloc (.cells #[.int .i64 e] 71)).setCell t (.int .i64 e) := by
  have h6 := @run_callFunc_extern Tryd.prog 90 _ (fun args => ReflectliteValue.unpack (args.getD 0 (.tuple #[]))) Tryd.func90 (by kernel_rfl) (by kernel_rfl) (by kernel_rfl) (by kernel_rfl)
  have h7 := @run_callFunc_extern Tryd.prog 91 _ (ReflectliteValue.methodAny (ReflectliteValue.valueError "reflectlite.Value.Type" 0) (fun t _ _ _ => ReflectliteType.toType t)) Tryd.func91 (by kernel_rfl) (by kernel_rfl) (by kernel_rfl) (by kernel_rfl)
  have h8 := @run_callFunc_extern Tryd.prog 92 _ (ReflectliteValue.method (ReflectliteValue.valueError "reflectlite.Value.IsNil" 0) ReflectliteValue.isNil) Tryd.func92 (by kernel_rfl) (by kernel_rfl) (by kernel_rfl) (by kernel_rfl)
  have h27 := @run_callFunc_extern Tryd.prog 138 _ (ReflectliteType.abiMethod fun t => do pure (.int .u8 (← Rtype.kind t))) Tryd.func138 (by kernel_rfl) (by kernel_rfl) (by kernel_rfl) (by kernel_rfl)
  have h37 := @run_callFunc_extern Tryd.prog 145 _ (ReflectliteType.method ReflectliteType.elem) Tryd.func145 (by kernel_rfl) (by kernel_rfl) (by kernel_rfl) (by kernel_rfl)
  have h38 := @run_callFunc_extern Tryd.prog 146 _ (ReflectliteType.relation "Implements" ReflectliteType.implements_) Tryd.func146 (by kernel_rfl) (by kernel_rfl) (by kernel_rfl) (by kernel_rfl)
  have h10 := @run_callFunc_extern Tryd.prog 61 _ ReflectliteType.typeOf Tryd.func61 (by kernel_rfl) (by kernel_rfl) (by kernel_rfl) (by kernel_rfl)
  have h35 := @run_callFunc_extern Tryd.prog 143 _ (ReflectliteType.relation "AssignableTo" ReflectliteType.assignableTo) Tryd.func143 (by kernel_rfl) (by kernel_rfl) (by kernel_rfl) (by kernel_rfl)
  have h11 := @run_callFunc_extern Tryd.prog 107 _ (ReflectliteValue.method (ReflectliteValue.valueError "reflectlite.Value.Elem" 0) ReflectliteValue.elem) Tryd.func107 (by kernel_rfl) (by kernel_rfl) (by kernel_rfl) (by kernel_rfl)
  have h12 := @run_callFunc_extern Tryd.prog 108 _ ReflectliteValue.set Tryd.func108 (by kernel_rfl) (by kernel_rfl) (by kernel_rfl) (by kernel_rfl)
  have tO := Tryd.as_typeOf25
  have mA := Tryd.as_methodAssignableTo
  have a25 := Tryd.as_assignable25
  have v25 := Tryd.as_valueOf25
  have f6 := Tryd.as_valueOf27
  have f7 := Tryd.as_type27
  have mK := Tryd.as_methodKind
  have mE := Tryd.as_methodElem
  have mI := Tryd.as_methodImplements
  have k27 := Tryd.as_kind27
  have k25 := Tryd.as_kind25
  have e27 := Tryd.as_elem27
  have i25 := Tryd.as_implements25
  have n8 := Tryd.as_isNil27 ⟨w.heap.size, 0, none⟩ t ((w.alloc (.cells #[.pointer (some t)] 135)).alloc (.cells #[.pointer (some ⟨1, 135, none⟩), .pointer (some ⟨w.heap.size, 0, none⟩), .int .u64 150] 165)) (by simp)
  have hlt : 0 < w.heap.size := by
    rcases Nat.eq_zero_or_pos w.heap.size with h0 | h
    · simp [World.cell?, h0] at hg
    · exact h
  have hg2 : ((w.alloc (.cells #[.pointer (some t)] 135)).alloc (.cells #[.pointer (some ⟨1, 135, none⟩), .pointer (some ⟨w.heap.size, 0, none⟩), .int .u64 150] 165)).cell? ⟨0, 0, none⟩ = some (.iface 147 (.agg #[.pointer (some ⟨1, 26, none⟩)])) := by
    rw [World.cell?_alloc_lt _ _ ⟨0, 0, none⟩ (by simp), World.cell?_alloc_lt _ _ ⟨0, 0, none⟩ hlt]; exact hg
  have htl : t.block < w.heap.size := by
    rcases Nat.lt_or_ge t.block w.heap.size with h | h
    · exact h
    · simp [World.cell?, Array.getElem?_eq_none h] at ht0
  have el := Tryd.as_elemV27 ⟨w.heap.size, 0, none⟩ t (((w.alloc (.cells #[.pointer (some t)] 135)).alloc (.cells #[.pointer (some ⟨1, 135, none⟩), .pointer (some ⟨w.heap.size, 0, none⟩), .int .u64 150] 165)).alloc (.cells #[.pointer (some ⟨1, 135, none⟩), .pointer (some ⟨w.heap.size, 0, none⟩), .int .u64 150] 165)) (by rw [World.cell?_alloc_lt _ _ ⟨w.heap.size, 0, none⟩ (by simp; omega)]; simp)
  have st := Tryd.as_set25 t ⟨w.heap.size + 1 + 1 + 1, 0, none⟩ e old ((((w.alloc (.cells #[.pointer (some t)] 135)).alloc (.cells #[.pointer (some ⟨1, 135, none⟩), .pointer (some ⟨w.heap.size, 0, none⟩), .int .u64 150] 165)).alloc (.cells #[.pointer (some ⟨1, 135, none⟩), .pointer (some ⟨w.heap.size, 0, none⟩), .int .u64 150] 165)).alloc (.cells #[.int .i64 e] 71))
    (by rw [World.cell?_alloc_at _ _ _ _ (by simp)]; rfl)
    (by rw [World.cell?_alloc_lt _ _ t (by simp; omega), World.cell?_alloc_lt _ _ t (by simp; omega), World.cell?_alloc_lt _ _ t (by simp; omega), World.cell?_alloc_lt _ _ t htl]; exact ht0)
    (by rw [World.frozen?_alloc_old _ _ t (by simp; omega), World.frozen?_alloc_old _ _ t (by simp; omega), World.frozen?_alloc_old _ _ t (by simp; omega), World.frozen?_alloc_old _ _ t (Nat.ne_of_lt htl)]; exact hf0)
  go_enter Tryd.func73, Tryd.ntmps73
  go_wp2
  refine wp_loop_rounds 1 ?_
  rw [rounds_succ]
  go_wp2
  go_ret
  exact ⟨rfl, rfl⟩
end Go.Proofs
/- An error's number: by its contract; both as triples. -/

set_option linter.all false
namespace Go.Proofs
open Go.RowKit Go.Extern.Stop Go.Stop Go.Extern
theorem code_nil (w : World) : Calls Tryd.prog 46 #[.nilIface] w fun e w' => e = .returned (.int .i64 0) ∧ Go.Ev.Grows w w' := by
  have hn : ∀ w, (binOp .eql 26 .nilIface .nilIface).run Tryd.prog w = .ok (.bool true) w := fun w => by kernel_rfl
  go_enter Tryd.func46, Tryd.ntmps46
  go_wp2
  go_ret
  exact ⟨rfl, Go.Ev.Grows.alloc _ _⟩
set_option maxHeartbeats 4000000 in
theorem code_num (n : Int) (w : World) (hg : w.cell? ⟨0, 0, none⟩ = some (.iface 147 (.agg #[.pointer (some ⟨1, 26, none⟩)]))) : Calls Tryd.prog 46 #[.iface 71 (.int .i64 n)] w fun e w' => e = .returned (.int .i64 n) ∧ Go.Ev.Grows w w' := by
  have hlt : 0 < w.heap.size := by
    rcases Nat.eq_zero_or_pos w.heap.size with h0 | h
    · simp [World.cell?, h0] at hg
    · exact h
  have hn : ∀ w, (binOp .eql 26 (.iface 71 (.int .i64 n)) .nilIface).run Tryd.prog w = .ok (.bool false) w := fun w => by kernel_rfl
  have hgA : (w.alloc (.cells #[.int .i64 0] 71)).cell? ⟨0, 0, none⟩ = some (.iface 147 (.agg #[.pointer (some ⟨1, 26, none⟩)])) := by
    rw [World.cell?_alloc_lt _ _ ⟨0, 0, none⟩ hlt]; exact hg
  have htA : (w.alloc (.cells #[.int .i64 0] 71)).cell? ⟨w.heap.size, 0, none⟩ = some (.int .i64 0) := by simp
  have hfA : (w.alloc (.cells #[.int .i64 0] 71)).frozen? ⟨w.heap.size, 0, none⟩ = false := by simp
  go_enter Tryd.func46, Tryd.ntmps46
  go_wp2_with (first | (go_at_call 73; refine (as_hit n _ (.int .i64 0) _ hgA htA hfA).mono ?_; rintro e w' ⟨rfl, rfl⟩))
  go_ret
  refine ⟨rfl, ?_⟩
  exact ((((Go.Ev.Grows.alloc _ _).trans (Go.Ev.Grows.alloc _ _)).trans (Go.Ev.Grows.alloc _ _)).trans (Go.Ev.Grows.alloc _ _)).trans (Go.Ev.Grows.alloc _ _)
end Go.Proofs
namespace Go.Proofs
open Go Go.Ev
/-- an error: none, or a number -/
def errV : Option Int → AV
  | none => .nili
  | some n => .iface 71 (.int .i64 n)
theorem errV_inv {φ : Phi} {e : Option Int} {v : Value} (h : VRel Tryd.prog φ (errV e) v) : v = (match e with | none => .nilIface | some n => .iface 71 (.int .i64 n)) := by
  cases e with
  | none => cases h; rfl
  | some n => cases h with | iface _ _ v' h => cases h; rfl
theorem one_arg {φ : Phi} {a : AV} {args : Array Value} (h : VRels Tryd.prog φ [a] args.toList) : ∃ v, args = #[v] ∧ VRel Tryd.prog φ a v := by
  cases hl : args.toList with
  | nil => rw [hl] at h; cases h
  | cons v l =>
    rw [hl] at h
    cases h with
    | cons _ _ _ _ h1 h2 =>
      cases h2
      exact ⟨v, by rw [← Array.toArray_toList (xs := args), hl], h1⟩
theorem two_args {φ : Phi} {a b : AV} {args : Array Value} (h : VRels Tryd.prog φ [a, b] args.toList) : ∃ v u, args = #[v, u] ∧ VRel Tryd.prog φ a v ∧ VRel Tryd.prog φ b u := by
  cases hl : args.toList with
  | nil => rw [hl] at h; cases h
  | cons v l =>
    rw [hl] at h
    cases h with
    | cons _ _ _ _ h1 h2 =>
      cases h2 with
      | cons _ _ u _ h3 h4 =>
        cases h4
        exact ⟨v, u, by rw [← Array.toArray_toList (xs := args), hl], h1, h3⟩
variable {H : Heap}
theorem f32_ok (a : Option Int) (b : Int) : FnOk Tryd.prog 32 [errV a, .iface 71 (.int .i64 b)] H fun r G => r = .bool (decide (a = some b)) ∧ G = H := by
  refine FnOk.of_calls fun φ w args' ha hw => ?_
  obtain ⟨v, u, rfl, h1, h2⟩ := two_args ha
  have e1 := errV_inv h1
  have e2 := errV_inv (e := some b) h2
  cases a with
  | none =>
    obtain rfl : v = .nilIface := e1
    obtain rfl : u = .iface 71 (.int .i64 b) := e2
    refine (is_nil b w).mono ?_
    rintro e w' ⟨rfl, rfl⟩
    exact ⟨⟨_, rfl, .bool _⟩, Grows.refl _⟩
  | some a =>
    obtain rfl : v = .iface 71 (.int .i64 a) := e1
    obtain rfl : u = .iface 71 (.int .i64 b) := e2
    refine (is_num a b w).mono ?_
    rintro e w' ⟨rfl, rfl⟩
    refine ⟨⟨_, rfl, ?_⟩, Grows.refl _⟩
    rw [show decide (some a = some b) = (a == b) by by_cases h : a = b <;> simp [h]]
    exact .bool _
theorem f46_ok (a : Option Int) : FnOk Tryd.prog 46 [errV a] H fun r G => r = .int .i64 (a.getD 0) ∧ G = H := by
  refine FnOk.of_calls fun φ w args' ha hw => ?_
  obtain ⟨v, rfl, h1⟩ := one_arg ha
  have e1 := errV_inv h1
  cases a with
  | none =>
    obtain rfl : v = .nilIface := e1
    refine (code_nil w).mono ?_
    rintro e w' ⟨rfl, hg⟩
    exact ⟨⟨_, rfl, .int _ _⟩, hg⟩
  | some a =>
    obtain rfl : v = .iface 71 (.int .i64 a) := e1
    refine (code_num a w (hw.rom 0 _ (List.mem_singleton.2 rfl)).1).mono ?_
    rintro e w' ⟨rfl, hg⟩
    exact ⟨⟨_, rfl, .int _ _⟩, hg⟩
end Go.Proofs
/- Small functions of keys, spans, cells, walked. -/

set_option linter.all false
set_option maxRecDepth 100000
namespace Go.Proofs
open Go Go.Ev
variable {H : Heap}
theorem bool_t {p : Prop} [Decidable p] (h : p) : AV.bool true = .bool (decide p) := by rw [decide_eq_true h]
theorem bool_f {p : Prop} [Decidable p] (h : ¬p) : AV.bool false = .bool (decide p) := by rw [decide_eq_false h]
def isKey (k : List Nat) : Prop := ¬ k = [] ∧ (k.length : Int) ≤ 8
instance (k : List Nat) : Decidable (isKey k) := inferInstanceAs (Decidable (_ ∧ _))
theorem f81_ok (k : List Nat) : FnOk Tryd.prog 81 [.str k] H fun v G => v = .bool (decide (isKey k)) ∧ G = H := by
  refine FnOk.of_WW Tryd.func81 rfl C81ok R81ok E0 good_E0 ?_
  simp only [go_sem, C81]
  repeat' (first | apply And.intro | intro _)
  all_goals first | exact Heap.ext_nil H | simp_all [isKey]
theorem f57_ok (k : List Nat) : FnOk Tryd.prog 57 [.str k] H fun v G => v = .bool (decide (isKey k)) ∧ G = H := by
  refine FnOk.of_WW Tryd.func57 rfl C57ok R57ok E0 good_E0 ?_
  simp only [go_sem, C57]
  have hl : (1 : Int) ≤ (k.length : Int) ↔ ¬ k = [] := by cases k <;> simp; omega
  repeat' (first | apply And.intro | intro _)
  all_goals first | exact Heap.ext_nil H | simp_all [isKey]
def isSpan (f t : List Nat) : Prop := (f.length : Int) ≤ 8 ∧ (t.length : Int) ≤ 8 ∧ (t = [] ∨ ltS f t)
noncomputable instance (f t : List Nat) : Decidable (isSpan f t) := inferInstanceAs (Decidable (_ ∧ _))
theorem f59_ok (f t : List Nat) : FnOk Tryd.prog 59 [.agg [.str f, .str t]] H fun v G => v = .bool (decide (isSpan f t)) ∧ G = H := by
  refine FnOk.drop (R := fun v => v = .bool (decide (isSpan f t))) ?_ (by rintro v rfl ρ; rw [AV.ren])
  refine FnOk.of_WW Tryd.func59 rfl C59ok R59ok E0 good_E0 ?_
  simp only [go_sem, C59, not_leS]
  repeat' (first | apply And.intro | intro _)
  all_goals first | exact ⟨_, rfl⟩ | exact bool_t (by unfold isSpan; grind) | exact bool_f (by unfold isSpan; grind)
theorem f40_ok (f t : List Nat) : FnOk Tryd.prog 40 [.agg [.str f, .str t]] H fun v G => v = .bool (decide (isSpan f t)) ∧ G = H := by
  refine FnOk.drop (R := fun v => v = .bool (decide (isSpan f t))) ?_ (by rintro v rfl ρ; rw [AV.ren])
  refine FnOk.of_WW Tryd.func40 rfl C40ok R40ok E0 good_E0 ?_
  simp only [go_sem, C40, not_leS]
  repeat' (first | apply And.intro | intro _)
  all_goals first | exact ⟨_, rfl⟩ | exact bool_t (by unfold isSpan; grind) | exact bool_f (by unfold isSpan; grind)
def mayBe (k v : List Nat) (n : Int) (d : Bool) : Prop := isKey k ∧ (v.length : Int) ≤ 12 ∧ (d = true → v = []) ∧ 1 ≤ n ∧ n ≤ 1000000000000
instance (k v : List Nat) (n : Int) (d : Bool) : Decidable (mayBe k v n d) := inferInstanceAs (Decidable (_ ∧ _))
structure Cell where
  key : List Nat
  value : List Nat
  ver : Int
  del : Bool
  floor : Int
  deriving DecidableEq
def Cell.enc (c : Cell) : List AV := [.str c.key, .str c.value, .int .i64 c.ver, .bool c.del, .int .i64 c.floor]
@[go_sem] theorem Cell.rens (ρ : K → K) (c : Cell) : AV.rens ρ c.enc = c.enc := by simp only [Cell.enc, AV.rens, AV.ren]
theorem Cell.map_rens (ρ : K → K) (l : List Cell) : (l.map Cell.enc).map (AV.rens ρ) = l.map Cell.enc := by
  rw [List.map_map]; exact List.map_congr_left fun c _ => Cell.rens ρ c
def has (f t k : List Nat) : Prop := isSpan f t ∧ isKey k ∧ ¬ ltS k f ∧ (t = [] ∨ ltS k t)
noncomputable instance (f t k : List Nat) : Decidable (has f t k) := inferInstanceAs (Decidable (_ ∧ _))
theorem f65_ok (f t k : List Nat) : FnOk Tryd.prog 65 [.agg [.str f, .str t], .str k] H fun v G => v = .bool (decide (has f t k)) ∧ G = H := by
  refine FnOk.drop (R := fun v => v = .bool (decide (has f t k))) ?_ (by rintro v rfl ρ; rw [AV.ren])
  refine FnOk.of_WW Tryd.func65 rfl C65ok R65ok E0 good_E0 ?_
  simp only [go_sem, C65]
  refine CL.bool (f59_ok _ _) (fun h1 => ?_) (fun h1 => ?_)
  all_goals simp only [go_sem]
  · refine CL.bool (f81_ok _) (fun h2 => ?_) (fun h2 => ?_)
    all_goals simp only [go_sem]
    all_goals repeat' (first | apply And.intro | intro _)
    all_goals first | exact ⟨_, rfl⟩ | exact bool_t (by unfold has; grind) | exact bool_f (by unfold has; grind)
  · exact ⟨bool_f (by unfold has; grind), _, rfl⟩
theorem f27_ok (f t k : List Nat) : FnOk Tryd.prog 27 [.agg [.str f, .str t], .str k] H fun v G => v = .bool (decide (has f t k)) ∧ G = H := by
  refine FnOk.drop (R := fun v => v = .bool (decide (has f t k))) ?_ (by rintro v rfl ρ; rw [AV.ren])
  refine FnOk.of_WW Tryd.func27 rfl C27ok R27ok E0 good_E0 ?_
  simp only [go_sem, C27]
  refine CL.bool (f40_ok _ _) (fun h1 => ?_) (fun h1 => ?_)
  all_goals simp only [go_sem]
  · refine CL.bool (f57_ok _) (fun h2 => ?_) (fun h2 => ?_)
    all_goals simp only [go_sem]
    all_goals repeat' (first | apply And.intro | intro _)
    all_goals first | exact ⟨_, rfl⟩ | exact bool_t (by unfold has; grind) | exact bool_f (by unfold has; grind)
  · exact ⟨bool_f (by unfold has; grind), _, rfl⟩
def cellIs (c : Cell) : Prop := mayBe c.key c.value c.ver c.del ∧ 0 ≤ c.floor ∧ c.floor ≤ c.ver
instance (c : Cell) : Decidable (cellIs c) := inferInstanceAs (Decidable (_ ∧ _))
end Go.Proofs
/- index: Get, walked. -/

set_option linter.all false
set_option maxRecDepth 100000
namespace Go.Proofs
open Go Go.Ev
variable {H : Heap}
def Cell.zero : Cell := ⟨[], [], 0, false, 0⟩
def getL (l : List Cell) (key : List Nat) : Cell × Bool := match l with
  | [] => (⟨key, [], 0, false, 0⟩, false)
  | c :: l => if c.key = key then (c, true) else getL l key
end Go.Proofs
/- index: loops that only read, walked. -/

set_option linter.all false
set_option maxRecDepth 100000
namespace Go.Proofs
open Go Go.Ev
variable {H : Heap}

def few (l : List Cell) : Prop := (∀ c ∈ l, (c.key.length : Int) ≤ 20 ∧ (c.value.length : Int) ≤ 40) ∧ (l.length : Int) ≤ 30
instance (l : List Cell) : Decidable (few l) := inferInstanceAs (Decidable (_ ∧ _))

end Go.Proofs
/- index: the order of cells, walked. -/

set_option linter.all false
set_option maxRecDepth 100000
namespace Go.Proofs
open Go Go.Ev
variable {H : Heap}

def okAt (l : List Cell) (j : Nat) : Prop := ∃ c, l[j]? = some c ∧ cellIs c ∧ (0 < j → ∃ d, l[j - 1]? = some d ∧ ltS d.key c.key)
def isIdx (l : List Cell) : Prop := ∀ j, j < l.length → okAt l j
noncomputable instance (l : List Cell) : Decidable (isIdx l) := Classical.propDecidable _

end Go.Proofs
/- index: the reference order of cells and sameness, walked. -/

set_option linter.all false
set_option maxRecDepth 100000
namespace Go.Proofs
open Go Go.Ev
variable {H : Heap}

noncomputable def F46 : FuncId → List AV → Option AV
  | 27, [.agg [.str f, .str t], .str k] => some (.bool (decide (has f t k)))
  | _, _ => none
theorem good_F46 : Ev.Good Tryd.prog (pureE F46) := by
  refine good_pureE fun f args v h H => ?_
  unfold F46 at h
  split at h
  · cases h; exact f27_ok _ _ _
  · cases h
theorem e46 (f t k : List Nat) (H : Heap) : pureE F46 27 [.agg [.str f, .str t], .str k] H = .ok (.bool (decide (has f t k))) H := rfl

end Go.Proofs
/- once: numbers and texts as bytes, answers that may be: walked. -/


set_option linter.all false
set_option maxRecDepth 100000
namespace Go.Proofs
open Go Go.Ev
variable {H : Heap}

def byteV (b : Nat) : AV := .int .u8 (b : Int)
@[go_sem] theorem bin_shr6 {β : Type} {P : Program} (ek : EK) (pk : Option (List LK)) (lit : Bool) (a : Int) (f : β) (c : AV → β) : binV P ek pk lit .shr (.int .i64 a) (.int .u64 6) f c = c (.int .i64 (a.fdiv 64)) := bin_shr ek pk lit .i64 a f c .u64 6
end Go.Proofs
/- once: texts as bytes, answers that may be: walked. -/

set_option linter.all false
set_option maxRecDepth 100000
namespace Go.Proofs
open Go Go.Ev
variable {H : Heap}

/-- a row of an answer -/
structure Rw where
  k : List Nat
  v : List Nat
  ver : Int
def Rw.enc (r : Rw) : List AV := [.str r.k, .str r.v, .int .i64 r.ver]
theorem Rw.rens (ρ : K → K) (c : Rw) : AV.rens ρ c.enc = c.enc := by simp only [Rw.enc, AV.rens, AV.ren]
theorem Rw.map_rens (ρ : K → K) (l : List Rw) : (l.map Rw.enc).map (AV.rens ρ) = l.map Rw.enc := by
  rw [List.map_map]; exact List.map_congr_left fun c _ => Rw.rens ρ c
theorem Rw.enc_inj {c d : Rw} (h : c.k = d.k ∧ c.v = d.v ∧ c.ver = d.ver) : c = d := by cases c; cases d; simp_all
def badR (r : Rw) : Prop := (255 : Int) < (r.k.length : Int) ∨ (255 : Int) < (r.v.length : Int) ∨ r.ver < 0 ∨ (281474976710656 : Int) ≤ r.ver
instance (r : Rw) : Decidable (badR r) := inferInstanceAs (Decidable (_ ∨ _))
def anyBad (l : List Rw) : Prop := ∃ r ∈ l, badR r
noncomputable instance (l : List Rw) : Decidable (anyBad l) := Classical.propDecidable _
/-- an answer, with where its rows lie -/
structure An where
  code : Int
  val : List Nat
  ver : Int
  rows : List Rw
  rv : AV
def An.enc (a : An) : List AV := [.int .i64 a.code, .str a.val, .int .i64 a.ver, a.rv]
def An.ok (H : Heap) (a : An) : Prop := Arr H 3 a.rv (a.rows.map Rw.enc) ∧ a.rows.length ≤ 9223372036854775807
theorem An.ok.ext {a : An} (h : a.ok H) (L : List Blk) : a.ok (H.ext L) := ⟨h.1.ext L, h.2⟩
def isAns (a : An) : Prop := (0 ≤ a.code ∧ a.code < 281474976710656 ∧ 0 ≤ a.ver ∧ a.ver < 281474976710656 ∧ (a.val.length : Int) ≤ 255) ∧ (a.rows.length : Int) ≤ 16 ∧ ¬ anyBad a.rows
noncomputable instance (a : An) : Decidable (isAns a) := Classical.propDecidable _
end Go.Proofs
/- once: whether they are any, few, the same: walked. -/

set_option linter.all false
set_option maxRecDepth 100000
namespace Go.Proofs
open Go Go.Ev
variable {H : Heap}

/-- what was done of a session last -/
structure Dn where
  ses : Int
  id : Int
  an : An
def Dn.enc (d : Dn) : List AV := [.int .i64 d.ses, .int .i64 d.id, .int .i64 d.an.code, .str d.an.val, .int .i64 d.an.ver, d.an.rv]
def allOk (H : Heap) (l : List Dn) : Prop := ∀ d ∈ l, d.an.ok H
theorem allOk.ext {l : List Dn} (h : allOk H l) (L : List Blk) : allOk (H.ext L) l := fun d hd => (h d hd).ext L
theorem An.ok.ren {a : An} (h : a.ok H) (top : Nat) (σ : List Nat) : AV.ren (rho H top σ) a.rv = a.rv := h.1.ren top σ
theorem Dn.ren1 {d : Dn} (h : d.an.ok H) (top : Nat) (σ : List Nat) : AV.rens (rho H top σ) d.enc = d.enc := by
  simp only [Dn.enc, AV.rens, AV.ren, h.ren]
theorem allOk.rens {l : List Dn} (h : allOk H l) (top : Nat) (σ : List Nat) : (l.map Dn.enc).map (AV.rens (rho H top σ)) = l.map Dn.enc := by
  rw [List.map_map]; exact List.map_congr_left fun d hd => Dn.ren1 (h d hd) top σ
def okD (d : Dn) : Prop := (0 ≤ d.ses ∧ d.ses < 3 ∧ 1 ≤ d.id ∧ d.id ≤ 1000000000000) ∧ isAns d.an
def okDt (l : List Dn) (j : Nat) : Prop := ∃ c, l[j]? = some c ∧ okD c ∧ (0 < j → ∃ d, l[j - 1]? = some d ∧ d.ses < c.ses)
def isDone (l : List Dn) : Prop := ∀ j, j < l.length → okDt l j
noncomputable instance (l : List Dn) : Decidable (isDone l) := Classical.propDecidable _
def fewD (l : List Dn) : Prop := (∀ d ∈ l, (d.an.val.length : Int) ≤ 60 ∧ (d.an.rows.length : Int) ≤ 8) ∧ (l.length : Int) ≤ 10
instance (l : List Dn) : Decidable (fewD l) := inferInstanceAs (Decidable (_ ∧ _))
end Go.Proofs
/- once: the same answers, the same rows of what was done, where a session's is: walked. -/

set_option linter.all false
set_option maxRecDepth 100000
namespace Go.Proofs
open Go Go.Ev
variable {H : Heap}

def sameA (a b : An) : Prop := a.code = b.code ∧ a.val = b.val ∧ a.ver = b.ver ∧ a.rows = b.rows
noncomputable instance (a b : An) : Decidable (sameA a b) := Classical.propDecidable _
theorem Rw.enc_one {a b : Rw} (h : a.enc = b.enc) : a = b := by
  simp [Rw.enc] at h
  exact Rw.enc_inj h
def sameDn (c d : Dn) : Prop := c.ses = d.ses ∧ c.id = d.id ∧ sameA c.an d.an
/-- the same rows of what was done -/
def sameD (l m : List Dn) : Prop := l.length = m.length ∧ ∀ (i : Nat) (c d : Dn), l[i]? = some c → m[i]? = some d → sameDn c d
noncomputable instance (l m : List Dn) : Decidable (sameD l m) := Classical.propDecidable _
end Go.Proofs
/- cut: small functions, walked. -/




set_option linter.all false
set_option linter.all false
set_option maxRecDepth 100000
namespace Go.Proofs
open Go Go.Ev
variable {H : Heap}

def isID (n : Int) : Prop := 1 ≤ n ∧ n ≤ 1000000000000
instance (n : Int) : Decidable (isID n) := inferInstanceAs (Decidable (_ ∧ _))
theorem f22_ok (a : Option Int) (n : Int) : FnOk Tryd.prog 22 [errV a, .int .i64 n] H fun r G => r = .bool (decide (a = some n)) ∧ G = H := by
  refine FnOk.of_WW Tryd.func22 rfl C22ok R22ok E0 good_E0 ?_
  cases a with
  | none =>
    simp only [go_sem, C22, errV]
    exact Heap.ext_nil H
  | some a =>
    simp only [go_sem, C22, errV]
    refine CL.one (f46_ok (some a)) ?_
    simp only [go_sem, Option.getD_some]
    refine ⟨fun g => ⟨bool_f fun h => by cases h; exact g rfl, Heap.ext_nil H⟩, fun g => ?_⟩
    refine CL.one (f32_ok (some a) n) ?_
    rw [decide_eq_true (congrArg some (Classical.not_not.1 g))]
    simp only [go_sem]
    exact Heap.ext_nil H
structure Evn where
  key : List Nat
  ver : Int
  val : List Nat
  del : Bool
  deriving DecidableEq
def Evn.enc (e : Evn) : List AV := [.str e.key, .int .i64 e.ver, .str e.val, .bool e.del]
theorem Evn.rens (ρ : K → K) (c : Evn) : AV.rens ρ c.enc = c.enc := by simp only [Evn.enc, AV.rens, AV.ren]
theorem Evn.map_rens (ρ : K → K) (l : List Evn) : (l.map Evn.enc).map (AV.rens ρ) = l.map Evn.enc := by
  rw [List.map_map]; exact List.map_congr_left fun c _ => Evn.rens ρ c
def isEv (e : Evn) : Prop := mayBe e.key e.val e.ver e.del
instance (e : Evn) : Decidable (isEv e) := inferInstanceAs (Decidable (mayBe ..))
end Go.Proofs
/- history: whether a cell's events are all from its floor up to its version: walked. -/

set_option linter.all false
set_option linter.all false
set_option maxRecDepth 100000
namespace Go.Proofs
open Go Go.Ev
variable {H : Heap}

/-- events of a key, version by version -/
def runE (k : List Nat) : List Evn → Int × Evn → Option (Int × Evn)
  | [], s => some s
  | e :: l, s => if e.key = k then (if e.ver = s.1 + 1 then runE k l (e.ver, e) else none) else runE k l s
def lastOf (c : Cell) : Evn := ⟨[], 0, c.value, c.del⟩
/-- a cell's events -/
def ofH (l : List Evn) (c : Cell) : Prop := ∃ s, runE c.key l (c.floor, lastOf c) = some s ∧ s.1 = c.ver ∧ s.2.val = c.value ∧ s.2.del = c.del
noncomputable instance (l : List Evn) (c : Cell) : Decidable (ofH l c) := Classical.propDecidable _
end Go.Proofs
/- history, shards: whether they are any: walked. -/

set_option linter.all false
set_option linter.all false
set_option maxRecDepth 100000
namespace Go.Proofs
open Go Go.Ev
variable {H : Heap}

attribute [go_sem] mkfR
noncomputable instance (l : List Cell) (p : Cell → Prop) : Decidable (∃ c ∈ l, p c) := Classical.propDecidable _
/-- events of cells -/
def isHist (l : List Evn) (cells : List Cell) : Prop := isIdx cells ∧ (∀ e ∈ l, (getL cells e.key).2 = true ∧ isEv e) ∧ ∀ c ∈ cells, ofH l c
noncomputable instance (l : List Evn) (cells : List Cell) : Decidable (isHist l cells) := Classical.propDecidable _
theorem isIdx.cell {cells : List Cell} (h : isIdx cells) {c : Cell} (hc : c ∈ cells) : cellIs c := by
  obtain ⟨j, hj⟩ := List.mem_iff_getElem?.1 hc
  have := h j (List.getElem?_eq_some_iff.1 hj).1
  obtain ⟨c', h1, h2, _⟩ := this
  rw [hj] at h1; cases h1; exact h2
end Go.Proofs
/- history, shards: whether they are any: walked. -/

set_option linter.all false
set_option linter.all false
set_option maxRecDepth 100000
namespace Go.Proofs
open Go Go.Ev
variable {H : Heap}

theorem isEv.ver {e : Evn} (h : isEv e) : 1 ≤ e.ver ∧ e.ver ≤ 1000000000000 := ⟨h.2.2.2.1, h.2.2.2.2⟩
theorem cellIs.floor {c : Cell} (h : cellIs c) : 0 ≤ c.floor ∧ c.floor ≤ 1000000000000 := ⟨h.2.1, by have := h.1.2.2.2.2; have := h.2.2; omega⟩
theorem cap_ren {H : Heap} {b : Blk} {g : FuncId} (L : List Blk) (top : Nat) (σ : List Nat) : AV.ren (rho ((H.ext [b]).ext L) top σ) (.fn (.func g) [] [.ptr (H.key 0) 0]) = .fn (.func g) [] [.ptr (H.key 0) 0] := by
  have : rho ((H.ext [b]).ext L) top σ (H.key 0) = H.key 0 := rho_old (by rw [Heap.nx_ext, Heap.toNat_key, Heap.toNat_key, Heap.nx_ext, Heap.toNat_key]; simp; omega)
  simp only [AV.ren, AV.rens, this]
theorem get_first {H : Heap} {b : Blk} (L M : List Blk) : ((H.ext (b :: L)).ext M).get (H.key 0) = some b := by
  rw [Heap.ext_append, Heap.get_ext_key _ _ _ (by simp)]; rfl
structure Sh where
  id : Int
  ep : Int
  fr : List Nat
  to : List Nat
  frz : Bool
  cells : List Cell
  evs : List Evn
  done : List Dn
  cv : AV
  ev : AV
  dv : AV
def Sh.enc (s : Sh) : List AV := [.int .i64 s.id, .int .i64 s.ep, .str s.fr, .str s.to, .bool s.frz, s.cv, s.ev, s.dv]
structure Sh.ok (H : Heap) (s : Sh) : Prop where
  c : Arr H 5 s.cv (s.cells.map Cell.enc)
  e : Arr H 4 s.ev (s.evs.map Evn.enc)
  d : Arr H 6 s.dv (s.done.map Dn.enc)
  dok : allOk H s.done
  cl : s.cells.length < 4294967296
  el : s.evs.length < 4294967296
  dl : s.done.length < 4294967296
theorem Sh.ok.ext {s : Sh} (h : s.ok H) (L : List Blk) : s.ok (H.ext L) := ⟨h.c.ext L, h.e.ext L, h.d.ext L, h.dok.ext L, h.cl, h.el, h.dl⟩
theorem Sh.ok.ren {s : Sh} (h : s.ok H) (top : Nat) (σ : List Nat) : AV.rens (rho H top σ) s.enc = s.enc := by
  simp only [Sh.enc, AV.rens, AV.ren, h.c.ren top σ, h.e.ren top σ, h.d.ren top σ]
/-- a shard -/
def isSh (s : Sh) : Prop := (1 ≤ s.id ∧ s.id ≤ 1000000000000 ∧ 1 ≤ s.ep ∧ s.ep ≤ 1000000) ∧ isSpan s.fr s.to ∧ (∀ c ∈ s.cells, has s.fr s.to c.key) ∧ (s.evs.length : Int) ≤ 24 ∧ isHist s.evs s.cells ∧ isDone s.done
noncomputable instance (s : Sh) : Decidable (isSh s) := Classical.propDecidable _
end Go.Proofs
/- a shard as the law has it; few; cut: what fits: walked. -/

set_option linter.all false
set_option linter.all false
set_option maxRecDepth 100000
namespace Go.Proofs
open Go Go.Ev
variable {H : Heap}

theorem errV_ren (a : Option Int) (ρ : K → K) : AV.ren ρ (errV a) = errV a := by cases a <;> simp only [errV, AV.ren]
end Go.Proofs
/- cut: what is in a part; clones: walked. -/

set_option linter.all false
set_option linter.all false
set_option maxRecDepth 100000
namespace Go.Proofs
open Go Go.Ev
variable {H : Heap}

def nilB (v : AV) : Bool := match v with | .nils => true | _ => false
theorem FnOk.dropZd {z : Bool} {f : FuncId} {args : List AV} {esz n : Nat} {xs : List (List AV)} (hn : xs.length = n) (hx : ∀ top σ, xs.map (AV.rens (rho H top σ)) = xs)
    (h : FnOk Tryd.prog f args H fun v G => ∃ l i, v = zV z (H.key i) esz n ∧ G = H.ext l ∧ ((zB z esz xs).live → l[i]? = some (zB z esz xs))) :
    FnOk Tryd.prog f args H fun v G => v = zV z H.nx esz n ∧ G = H.ext [zB z esz xs] := by
  subst hn
  refine h.wk ?_
  rintro v G ⟨l, i, rfl, rfl, hl⟩
  refine ⟨l, [zB z esz xs], [i], zV z H.nx esz xs.length, rfl, ?_, rfl, by simp, ?_, rfl, rfl⟩
  · rw [zV_ren, ← Heap.key_zero, rho_key rfl]
  · intro p hp
    simp only [List.zip_cons_cons, List.zip_nil_left, List.mem_singleton] at hp
    subst hp
    intro hlive
    show l[i]? = some (Blk.ren _ (zB z esz xs))
    rw [zB_ren _ (hx _ _), hl hlive]
theorem clone_zd {f : FuncId} {esz bytes : Nat} {zero : List AV} (hf : CloFn Tryd.prog f esz bytes zero) {v : AV} {xs : List (List AV)} (hA : Arr H esz v xs) (hb : (2 * xs.length + 192) * bytes ≤ 281474976710656) (hx : ∀ top σ, xs.map (AV.rens (rho H top σ)) = xs) :
    FnOk Tryd.prog f [v] H fun r G => r = zV (nilB v) H.nx esz xs.length ∧ G = H.ext [zB (nilB v) esz xs] := by
  refine FnOk.dropZd rfl hx ?_
  rcases hA with ⟨rfl, rfl⟩ | ⟨k, off, ex, cap, rfl, hk, h⟩
  · refine (clone_nil hf).mono ?_
    rintro v G ⟨rfl, rfl⟩
    exact ⟨[], 0, rfl, (Heap.ext_nil _).symm, fun h => h.elim⟩
  · rcases Nat.eq_zero_or_pos xs.length with h0 | h0
    · obtain rfl := List.length_eq_zero_iff.1 h0
      refine (clone_zero hf).mono ?_
      rintro v G ⟨rfl, rfl⟩
      exact ⟨_, 0, rfl, rfl, fun _ => rfl⟩
    · obtain ⟨r, wr, rows, rfl, hg, hrow⟩ := h (by intro e; rw [e] at h0; simp at h0)
      have hn : r + xs.length ≤ rows.length := by
        have := congrArg List.length hrow
        rw [List.length_take, List.length_drop] at this
        omega
      have key := clone_arr hf hg hn h0 hb (ex := ex) (cap := cap)
      rw [hrow] at key
      refine key.mono ?_
      rintro v G ⟨rfl, rfl⟩
      exact ⟨_, 1, (zV_pos h0).symm, rfl, fun _ => by rw [zB_pos h0]; rfl⟩
@[go_sem] theorem agg_o {β : Type} (k : K) (e n : Nat) (f : β) (c : List AV → β) : asAggC (outV k e n) f c = f := by cases n <;> rfl
@[go_sem] theorem one_o (k : K) (e n : Nat) : AV.one (outV k e n) = true := by cases n <;> rfl
@[go_sem] theorem agg_z {β : Type} (z : Bool) (k : K) (e n : Nat) (f : β) (c : List AV → β) : asAggC (zV z k e n) f c = f := by cases n <;> cases z <;> rfl
@[go_sem] theorem one_z (z : Bool) (k : K) (e n : Nat) : AV.one (zV z k e n) = true := by cases n <;> cases z <;> rfl
@[go_sem] theorem rho_key4 (top i0 i1 i2 i3 j : Nat) (σ : List Nat) : rho H top (i0 :: i1 :: i2 :: i3 :: j :: σ) (H.key 4) = H.key j := rho_key rfl
@[go_sem] theorem rho_key5 (top i0 i1 i2 i3 i4 j : Nat) (σ : List Nat) : rho H top (i0 :: i1 :: i2 :: i3 :: i4 :: j :: σ) (H.key 5) = H.key j := rho_key rfl
@[go_sem] theorem rho_key6 (top i0 i1 i2 i3 i4 i5 j : Nat) (σ : List Nat) : rho H top (i0 :: i1 :: i2 :: i3 :: i4 :: i5 :: j :: σ) (H.key 6) = H.key j := rho_key rfl
@[go_sem] theorem rho_key7 (top i0 i1 i2 i3 i4 i5 i6 j : Nat) (σ : List Nat) : rho H top (i0 :: i1 :: i2 :: i3 :: i4 :: i5 :: i6 :: j :: σ) (H.key 7) = H.key j := rho_key rfl
@[go_sem] theorem rho_key8 (top i0 i1 i2 i3 i4 i5 i6 i7 j : Nat) (σ : List Nat) : rho H top (i0 :: i1 :: i2 :: i3 :: i4 :: i5 :: i6 :: i7 :: j :: σ) (H.key 8) = H.key j := rho_key rfl
@[go_sem] theorem rho_key9 (top i0 i1 i2 i3 i4 i5 i6 i7 i8 j : Nat) (σ : List Nat) : rho H top (i0 :: i1 :: i2 :: i3 :: i4 :: i5 :: i6 :: i7 :: i8 :: j :: σ) (H.key 9) = H.key j := rho_key rfl
@[go_sem] theorem rho_key10 (top i0 i1 i2 i3 i4 i5 i6 i7 i8 i9 j : Nat) (σ : List Nat) : rho H top (i0 :: i1 :: i2 :: i3 :: i4 :: i5 :: i6 :: i7 :: i8 :: i9 :: j :: σ) (H.key 10) = H.key j := rho_key rfl
@[go_sem] theorem rho_key11 (top i0 i1 i2 i3 i4 i5 i6 i7 i8 i9 i10 j : Nat) (σ : List Nat) : rho H top (i0 :: i1 :: i2 :: i3 :: i4 :: i5 :: i6 :: i7 :: i8 :: i9 :: i10 :: j :: σ) (H.key 11) = H.key j := rho_key rfl
@[go_sem] theorem rho_key12 (top i0 i1 i2 i3 i4 i5 i6 i7 i8 i9 i10 i11 j : Nat) (σ : List Nat) : rho H top (i0 :: i1 :: i2 :: i3 :: i4 :: i5 :: i6 :: i7 :: i8 :: i9 :: i10 :: i11 :: j :: σ) (H.key 12) = H.key j := rho_key rfl
@[go_sem] theorem rho_key13 (top i0 i1 i2 i3 i4 i5 i6 i7 i8 i9 i10 i11 i12 j : Nat) (σ : List Nat) : rho H top (i0 :: i1 :: i2 :: i3 :: i4 :: i5 :: i6 :: i7 :: i8 :: i9 :: i10 :: i11 :: i12 :: j :: σ) (H.key 13) = H.key j := rho_key rfl
end Go.Proofs
/- cut: what its functions answer, as an oracle; Split: walked. -/

set_option linter.all false
set_option linter.all false
set_option maxRecDepth 100000
namespace Go.Proofs
open Go Go.Ev
variable {H : Heap}

section
variable {α : Type}
/-- the one that is so -/
noncomputable def theO (p : α → Prop) : Option α := open Classical in if h : ∃ x, p x then some (Classical.choose h) else none
theorem theO_eq {p : α → Prop} {x : α} (h : p x) (hu : ∀ y, p y → y = x) : theO p = some x := by
  unfold theO
  have hex : ∃ x, p x := ⟨x, h⟩
  rw [dif_pos hex]
  exact congrArg some (hu _ (Classical.choose_spec hex))
theorem theO_spec {p : α → Prop} {x : α} (h : theO p = some x) : p x := by
  unfold theO at h
  split at h
  · rename_i hex
    cases h
    exact Classical.choose_spec hex
  · cases h
noncomputable def ot (p : α → Prop) (c : α → RC) : RC := match theO p with | some x => c x | none => .fail
theorem ot_eq {p : α → Prop} {x : α} (h : p x) (hu : ∀ y, p y → y = x) (c : α → RC) : ot p c = c x := by
  unfold ot; rw [theO_eq h hu]
theorem ot_ok {p : α → Prop} {c : α → RC} {r : AV} {G : Heap} (h : ot p c = .ok r G) : ∃ x, p x ∧ c x = .ok r G := by
  unfold ot at h
  split at h
  · rename_i x hx
    exact ⟨x, theO_spec hx, h⟩
  · cases h
end
theorem Cell.enc_one {a b : Cell} (h : a.enc = b.enc) : a = b := by
  cases a; cases b; simp [Cell.enc] at h; simp [h]
theorem Evn.enc_one {a b : Evn} (h : a.enc = b.enc) : a = b := by
  cases a; cases b; simp [Evn.enc] at h; simp [h]
theorem cells_uniq {v : AV} {xs ys : List Cell} (h : Arr H 5 v (xs.map Cell.enc)) (h2 : Arr H 5 v (ys.map Cell.enc)) : xs = ys :=
  List.map_inj_right (fun _ _ => Cell.enc_one) |>.1 (Arr.uniq h h2 (by decide))
theorem evs_uniq {v : AV} {xs ys : List Evn} (h : Arr H 4 v (xs.map Evn.enc)) (h2 : Arr H 4 v (ys.map Evn.enc)) : xs = ys :=
  List.map_inj_right (fun _ _ => Evn.enc_one) |>.1 (Arr.uniq h h2 (by decide))
theorem dns_inj : ∀ {l m : List Dn}, l.map Dn.enc = m.map Dn.enc → allOk H l → allOk H m → l = m
  | [], [], _, _, _ => rfl
  | [], _ :: _, h, _, _ => by cases h
  | _ :: _, [], h, _, _ => by cases h
  | x :: l, y :: m, h, ha, hb => by
    rw [List.map_cons, List.map_cons] at h
    injection h with h1 h2
    have h3 := dns_inj h2 (fun d hd => ha d (by simp [hd])) (fun d hd => hb d (by simp [hd]))
    have hx := ha x (by simp)
    have hy := hb y (by simp)
    obtain ⟨xs, xi, xc, xv, xn, xr, xw⟩ := x
    obtain ⟨ys, yi, yc, yv, yn, yr, yw⟩ := y
    simp only [Dn.enc, List.cons.injEq, AV.int.injEq, AV.str.injEq, true_and, and_true] at h1
    obtain ⟨rfl, rfl, rfl, rfl, rfl, rfl⟩ := h1
    have : xr = yr := List.map_inj_right (fun _ _ => Rw.enc_one) |>.1 (Arr.uniq hx.1 hy.1 (by decide))
    rw [this, h3]
theorem Sh.uniq {s t : Sh} (h : s.enc = t.enc) (hs : s.ok H) (ht : t.ok H) : s = t := by
  obtain ⟨id, ep, fr, to, fz, cs, es, ds, cv, ev, dv⟩ := s
  obtain ⟨id', ep', fr', to', fz', cs', es', ds', cv', ev', dv'⟩ := t
  simp only [Sh.enc, List.cons.injEq, AV.int.injEq, AV.str.injEq, AV.bool.injEq, true_and, and_true] at h
  obtain ⟨rfl, rfl, rfl, rfl, rfl, rfl, rfl, rfl⟩ := h
  obtain rfl := cells_uniq hs.c ht.c
  obtain rfl := evs_uniq hs.e ht.e
  obtain rfl := dns_inj (Arr.uniq hs.d ht.d (by decide)) hs.dok ht.dok
  rfl
end Go.Proofs
/- cut.Split: walked. -/

set_option linter.all false
set_option linter.all false
set_option maxRecDepth 100000
namespace Go.Proofs
open Go Go.Ev
variable {H : Heap}

def inSplit (s : Sh) (k : List Nat) : Prop := has s.fr s.to k ∧ ltS s.fr k
end Go.Proofs
/- cut: the plain law of parts. -/

set_option linter.all false
set_option linter.all false
set_option maxRecDepth 100000
namespace Go.Proofs
open Go Go.Ev
variable {H : Heap}

section
variable {s : Sh} {k : List Nat}
theorem inSplit.key (h : inSplit s k) : isKey k := h.1.2.1
theorem inSplit.lo (h : inSplit s k) : isSpan s.fr k := ⟨h.1.1.1, h.key.2, .inr h.2⟩
theorem inSplit.hi (h : inSplit s k) : isSpan k s.to := ⟨h.key.2, h.1.1.2.1, h.1.2.2.2⟩
section
variable {l r id : Int} {k0 k1 k2 k3 k4 k5 : K}
end
end
end Go.Proofs
/- cut: CutJoins, walked. -/

set_option linter.all false
set_option linter.all false
set_option maxRecDepth 100000
namespace Go.Proofs
open Go Go.Ev
variable {H : Heap}

/-- a shard of whatever length -/
structure Sh.okw (H : Heap) (s : Sh) : Prop where
  c : Arr H 5 s.cv (s.cells.map Cell.enc)
  e : Arr H 4 s.ev (s.evs.map Evn.enc)
  d : Arr H 6 s.dv (s.done.map Dn.enc)
  dok : allOk H s.done
theorem Sh.okw.ext {s : Sh} (h : s.okw H) (L : List Blk) : s.okw (H.ext L) := ⟨h.c.ext L, h.e.ext L, h.d.ext L, h.dok.ext L⟩
def fewS (s : Sh) : Prop := s.cells.length ≤ 30 ∧ s.evs.length ≤ 40 ∧ s.done.length ≤ 6
instance (s : Sh) : Decidable (fewS s) := inferInstanceAs (Decidable (_ ∧ _))
theorem Sh.okw.ok {s : Sh} (h : s.okw H) (hf : fewS s) : s.ok H := ⟨h.c, h.e, h.d, h.dok, by have := hf.1; omega, by have := hf.2.1; omega, by have := hf.2.2; omega⟩
end Go.Proofs
