/- errors.Is, where both are nil or numbers of a kind: by its contract. Written after the kit's worked text SentryIs. -/
import Derived.Test.YtkhaejbkdgbjcaaGreatDoorZ16
import Derived.Test.YtkhaejbkdgbjcaaGreatDoorProg
import Derived.KernelRfl
import Derived.WalkKit
import Derived.LaidEql
import Derived.Lib.IfaceEq
import Derived.Stop.Asserts
import Derived.Stop.IfaceNil
import Derived.RowKitTokens
set_option linter.all false
namespace Go.Proofs
open Go.RowKit Go.Extern.Stop Go.Stop Go.Extern
theorem Tryz.isTypeOf (v : Value) (w : World) : (Extern.ReflectliteType.typeOf #[.iface 118 v]).run Tryz.prog w = .ok (.iface 242 (.agg #[.pointer (some ⟨2, 118, none⟩)])) w := by kernel_rfl
theorem Tryz.isComparable (w : World) : ((Extern.ReflectliteType.method fun t => do Rtype.noPackHeld "Comparable" t; (fun a => Value.bool a.comparable) <$> typeInfo t) #[.agg #[.pointer (some ⟨2, 118, none⟩)]]).run Tryz.prog w = .ok (.bool true) w := by kernel_rfl
theorem Tryz.isMethodComparable (v : Value) (w : World) : (Go.method 489 242 v "Comparable").run Tryz.prog w = .ok (311, v) w := by kernel_rfl
theorem Tryz.isComp : (Tryz.prog.info? 118).map (·.comparable) = some true := by kernel_rfl
theorem Tryz.noIs (v : Value) (xT : TypeId) (w : World) : (Instr.typeAssert (.iface 118 v) xT 244 true).run Tryz.prog w = .ok (.tuple #[.nilIface, .bool false]) w := run_typeAssert_lacksB Tryz.underlying244 (by kernel_rfl) (by kernel_rfl) v xT w
theorem Tryz.noUnwrap (v : Value) (xT : TypeId) (w : World) : (Instr.typeAssert (.iface 118 v) xT 246 true).run Tryz.prog w = .ok (.tuple #[.nilIface, .bool false]) w := run_typeAssert_lacksB Tryz.underlying246 (by kernel_rfl) (by kernel_rfl) v xT w
theorem Tryz.noUnwraps (v : Value) (xT : TypeId) (w : World) : (Instr.typeAssert (.iface 118 v) xT 247 true).run Tryz.prog w = .ok (.tuple #[.nilIface, .bool false]) w := run_typeAssert_lacksB Tryz.underlying247 (by kernel_rfl) (by kernel_rfl) v xT w
/-- errors.Is of two numbers -/
theorem is_num (a b : Int) (w : World) : Calls Tryz.prog 64 #[.iface 118 (.int .i64 a), .iface 118 (.int .i64 b)] w fun e w' => e = .returned (.bool (a == b)) ∧ w' = w := by
  have h61 := @run_callFunc_extern Tryz.prog 127 _ Extern.ReflectliteType.typeOf Tryz.func127 (by kernel_rfl) (by kernel_rfl) (by kernel_rfl) (by kernel_rfl)
  have h144 := @run_callFunc_extern Tryz.prog 311 _ (Extern.ReflectliteType.method fun t => do Rtype.noPackHeld "Comparable" t; pure (.bool (← typeInfo t).comparable)) Tryz.func311 (by kernel_rfl) (by kernel_rfl) (by kernel_rfl) (by kernel_rfl)
  have tT := Tryz.isTypeOf
  have cT := Tryz.isComparable
  have mR := Tryz.isMethodComparable
  have n1 := Tryz.noIs
  have n2 := Tryz.noUnwrap
  have n3 := Tryz.noUnwraps
  have heq := Go.Lib.run_eql_iface_int (P := Tryz.prog) (t := 72) (k := .i64) w a b Tryz.underlying72 Tryz.isComp Tryz.underlying118
  by_cases hab : a = b
  · subst hab
    rw [beq_self_eq_true] at heq ⊢
    go_enter Tryz.func64, Tryz.ntmps64
    go_wp2
    refine wp_loop_rounds 1 ?_
    rw [rounds_succ]
    go_wp2
    go_ret
    exact ⟨rfl, rfl⟩
  · rw [show (a == b) = false from beq_false_of_ne hab] at heq ⊢
    go_enter Tryz.func64, Tryz.ntmps64
    go_wp2
    refine wp_loop_rounds 1 ?_
    rw [rounds_succ]
    go_wp2
    go_ret
    exact ⟨rfl, rfl⟩
theorem is_nil (b : Int) (w : World) : Calls Tryz.prog 64 #[.nilIface, .iface 118 (.int .i64 b)] w fun e w' => e = .returned (.bool false) ∧ w' = w := by
  have hn := run_eql_iface_nil_left (P := Tryz.prog) w 118 (.int .i64 b) Tryz.underlying72
  go_enter Tryz.func64, Tryz.ntmps64
  go_wp2
  go_ret
  exact ⟨rfl, rfl⟩
end Go.Proofs
/- errors.As, where the error is a number of a kind and a number of that kind is asked for: by its contract. Turned by a program from the kit's worked text ToyasAs. -/

set_option linter.all false
namespace Go.Proofs
open Go.RowKit Go.Extern.Stop Go.Stop Go.Extern

/-- errors.As(nil, target). -/
theorem as_nil (t : Value) (w : World) :
    Calls Tryz.prog 105 #[.nilIface, t] w fun e w' => e = .returned (.bool false) ∧ w' = w := by
  go_enter Tryz.func105, Tryz.ntmps105
  go_wp2
  go_ret
  exact ⟨rfl, rfl⟩

/-! ### CLOSED FACTS ON THE MODEL's ENTRIES FOR internal/reflectlite, at this program's types: 25: *p.E · 27: **p.E · 23: error · 45: reflectlite's rtype · 1: how many package-level variables the dump has -/
theorem Tryz.as_valueOf27 (t : Addr) (w : World) : (ReflectliteValue.unpack (.iface 165 (.pointer (some t)))).run Tryz.prog w
    = .ok (.agg #[.pointer (some ⟨2, 165, none⟩), .pointer (some ⟨w.heap.size, 0, none⟩), .int .u64 150]) (w.alloc (.cells #[.pointer (some t)] 165)) := by kernel_rfl
theorem Tryz.as_type27 (a : Addr) (w : World) : (ReflectliteValue.methodAny (ReflectliteValue.valueError "reflectlite.Value.Type" 0) (fun t _ _ _ => ReflectliteType.toType t) #[.agg #[.pointer (some ⟨2, 165, none⟩), .pointer (some a), .int .u64 150]]).run Tryz.prog w
    = .ok (.iface 242 (.agg #[.pointer (some ⟨2, 165, none⟩)])) w := by kernel_rfl
theorem Tryz.as_methodKind (h : Value) (w : World) : (Go.method 489 242 (.agg #[h]) "Kind").run Tryz.prog w = .ok (300, h) w := by kernel_rfl
theorem Tryz.as_kind27 (w : World) : ((ReflectliteType.abiMethod fun t => (fun a : Nat => Value.int IntKind.u8 (a : Int)) <$> Rtype.kind t) #[.pointer (some ⟨2, 165, none⟩)]).run Tryz.prog w = .ok (.int .u8 22) w := by kernel_rfl
theorem Tryz.as_kind25 (w : World) : ((ReflectliteType.abiMethod fun t => (fun a : Nat => Value.int IntKind.u8 (a : Int)) <$> Rtype.kind t) #[.pointer (some ⟨2, 118, none⟩)]).run Tryz.prog w = .ok (.int .u8 2) w := by kernel_rfl

/-! ### THE ENTRIES THAT READ OR WRITE MEMORY: laws with a premise on the cell (after Derived/Lib/ReflectliteSlice.lean's manner: each unfolding a lemma of its own, by rfl) -/
theorem rlm (z : Sem Value) (f : TypeId → Addr → Nat → Nat → Sem Value) (v : Value) :
    ReflectliteValue.method z f #[v] = (do match ← ReflectliteValue.parts v with | none => z | some (t, a, fl) => f t a fl (fl % 32)) := rfl
theorem Tryz.as_parts27 (a : Addr) (w : World) : (ReflectliteValue.parts (.agg #[.pointer (some ⟨2, 165, none⟩), .pointer (some a), .int .u64 150])).run Tryz.prog w = .ok (some (165, a, 150)) w := by kernel_rfl
/-- (Value).IsNil at the Value of a **p.E that is not nil. -/
theorem Tryz.as_isNil27 (a p : Addr) (W : World) (ha : W.cell? a = some (.pointer (some p))) :
    (ReflectliteValue.method (ReflectliteValue.valueError "reflectlite.Value.IsNil" 0) ReflectliteValue.isNil #[.agg #[.pointer (some ⟨2, 165, none⟩), .pointer (some a), .int .u64 150]]).run Tryz.prog W = .ok (.bool false) W := by
  rw [rlm]
  simp only [Sem.run_bind, Tryz.as_parts27, Result.andThen]
  simp [ReflectliteValue.isNil, loadVar, isAgg, underlying, Tryz.underlying165, ha, Result.andThen]

theorem Tryz.as_methodElem (h : Value) (w : World) : (Go.method 489 242 (.agg #[h]) "Elem").run Tryz.prog w = .ok (312, .agg #[h]) w := by kernel_rfl
theorem Tryz.as_methodImplements (h : Value) (w : World) : (Go.method 489 242 (.agg #[h]) "Implements").run Tryz.prog w = .ok (313, .agg #[h]) w := by kernel_rfl
theorem Tryz.as_methodAssignableTo (h : Value) (w : World) : (Go.method 489 242 (.agg #[h]) "AssignableTo").run Tryz.prog w = .ok (310, .agg #[h]) w := by kernel_rfl
theorem Tryz.as_elem27 (w : World) : (ReflectliteType.method ReflectliteType.elem #[.agg #[.pointer (some ⟨2, 165, none⟩)]]).run Tryz.prog w = .ok (.iface 242 (.agg #[.pointer (some ⟨2, 118, none⟩)])) w := by kernel_rfl
theorem Tryz.as_implements25 (w : World) : (ReflectliteType.relation "Implements" ReflectliteType.implements_ #[.agg #[.pointer (some ⟨2, 118, none⟩)], .iface 242 (.agg #[.pointer (some ⟨2, 72, none⟩)])]).run Tryz.prog w = .ok (.bool true) w := by kernel_rfl
theorem Tryz.as_typeOf25 (v : Value) (w : World) : (ReflectliteType.typeOf #[.iface 118 v]).run Tryz.prog w = .ok (.iface 242 (.agg #[.pointer (some ⟨2, 118, none⟩)])) w := by kernel_rfl
theorem Tryz.as_assignable25 (w : World) : (ReflectliteType.relation "AssignableTo" ReflectliteType.assignableTo #[.agg #[.pointer (some ⟨2, 118, none⟩)], .iface 242 (.agg #[.pointer (some ⟨2, 118, none⟩)])]).run Tryz.prog w = .ok (.bool true) w := by kernel_rfl
theorem Tryz.as_valueOf25 (e : Int) (w : World) : (ReflectliteValue.unpack (.iface 118 (.int .i64 e))).run Tryz.prog w
    = .ok (.agg #[.pointer (some ⟨2, 118, none⟩), .pointer (some ⟨w.heap.size, 0, none⟩), .int .u64 130]) (w.alloc (.cells #[.int .i64 e] 118)) := by kernel_rfl

theorem Tryz.as_elemOf27 (w : World) : (Rtype.elem? 165).run Tryz.prog w = .ok (some 118) w := by kernel_rfl
theorem Tryz.as_mk25 (p : Addr) (w : World) : (ReflectliteValue.mk 118 p ReflectliteValue.flagAddr).run Tryz.prog w = .ok (.agg #[.pointer (some ⟨2, 118, none⟩), .pointer (some p), .int .u64 386]) w := by kernel_rfl
/-- (Value).Elem at the Value of a **p.E that is not nil: the Value of the *p.E variable that it points to, addressable. -/
theorem Tryz.as_elemV27 (a p : Addr) (W : World) (ha : W.cell? a = some (.pointer (some p))) :
    (ReflectliteValue.method (ReflectliteValue.valueError "reflectlite.Value.Elem" 0) ReflectliteValue.elem #[.agg #[.pointer (some ⟨2, 165, none⟩), .pointer (some a), .int .u64 150]]).run Tryz.prog W
      = .ok (.agg #[.pointer (some ⟨2, 118, none⟩), .pointer (some p), .int .u64 386]) W := by
  rw [rlm]
  simp only [Sem.run_bind, Tryz.as_parts27, Result.andThen]
  simp [ReflectliteValue.elem, loadVar, isAgg, underlying, Tryz.underlying165, ha, Result.andThen, Tryz.as_elemOf27, Tryz.as_mk25]
theorem rls (v x : Value) : ReflectliteValue.set #[v, x] = (do
    let (some (dst, a, fl), some (src, b, _)) := (← ReflectliteValue.parts v, ← ReflectliteValue.parts x)
      | unsupported (.noEntry "extern/(internal/reflectlite.Value).Set.zeroValue")
    if fl / ReflectliteValue.flagAddr % 2 == 0 then unsupported (.noEntry "extern/(internal/reflectlite.Value).Set.unaddressable")
    let val ← loadVar src b
    if ← Rtype.directlyAssignable dst src then storeVar dst a val
    else if ← Rtype.implements dst src then
      if (← Rtype.kind src) == 20 then
        match val with
        | .nilIface => unsupported (.noEntry "extern/reflectlite: a nil value of one interface type handed on as a value of another")
        | _ => storeVar dst a val
      else storeVar dst a (.iface src val)
    else panicString ("reflectlite.Set: value of type " ++ (← Rtype.spelt src) ++ " is not assignable to type " ++ (← Rtype.spelt dst))
    pure (.tuple #[])) := rfl
theorem Tryz.as_parts25a (a : Addr) (w : World) : (ReflectliteValue.parts (.agg #[.pointer (some ⟨2, 118, none⟩), .pointer (some a), .int .u64 386])).run Tryz.prog w = .ok (some (118, a, 386)) w := by kernel_rfl
theorem Tryz.as_parts25 (a : Addr) (w : World) : (ReflectliteValue.parts (.agg #[.pointer (some ⟨2, 118, none⟩), .pointer (some a), .int .u64 130])).run Tryz.prog w = .ok (some (118, a, 130)) w := by kernel_rfl
theorem Tryz.as_direct25 (w : World) : (Rtype.directlyAssignable 118 118).run Tryz.prog w = .ok true w := by kernel_rfl
/-- (Value).Set: the *p.E variable at 'ta' gets what the Value's own variable 'b' holds. -/
theorem Tryz.as_set25 (ta b : Addr) (e : Int) (old : Value) (W : World) (hb : W.cell? b = some (.int .i64 e)) (ht : W.cell? ta = some old) (hf : W.frozen? ta = false) :
    (ReflectliteValue.set #[.agg #[.pointer (some ⟨2, 118, none⟩), .pointer (some ta), .int .u64 386], .agg #[.pointer (some ⟨2, 118, none⟩), .pointer (some b), .int .u64 130]]).run Tryz.prog W
      = .ok (.tuple #[]) (W.setCell ta (.int .i64 e)) := by
  rw [rls]
  simp only [Sem.run_bind, Tryz.as_parts25a, Tryz.as_parts25, Result.andThen]
  simp [ReflectliteValue.flagAddr, loadVar, isAgg, underlying, Tryz.underlying118, hb, Result.andThen, Tryz.as_direct25, storeVar, Value.cells, storeCells, Addr.add]
  rw [run_store Tryz.prog W ta _ _ (by rfl)]
  simp [ht, hf]

set_option maxHeartbeats 4000000 in
theorem as_hit (e : Int) (t : Addr) (old : Value) (w : World) (hg : w.cell? ⟨0, 0, none⟩ = some (.iface 242 (.agg #[.pointer (some ⟨2, 72, none⟩)]))) (ht0 : w.cell? t = some old) (hf0 : w.frozen? t = false) :
    Calls Tryz.prog 105 #[.iface 118 (.int .i64 e), .iface 165 (.pointer (some t))] w fun ev w' => ev = .returned (.bool true) ∧ w' = ((((w.alloc (.cells #[.pointer (some t)] 165)).alloc (.cells #[.pointer (some ⟨2, 165, none⟩), .pointer (some ⟨w.heap.size, 0, none⟩), .int .u64 150] 225)).alloc (.cells #[.pointer (some ⟨2, 165, none⟩), .pointer (some ⟨w.heap.size, 0, none⟩), .int .u64 150] 225)).alloc (.cells #[.int .i64 e] 118)).setCell t (.int .i64 e) := by
  have h6 := @run_callFunc_extern Tryz.prog 161 _ (fun args => ReflectliteValue.unpack (args.getD 0 (.tuple #[]))) Tryz.func161 (by kernel_rfl) (by kernel_rfl) (by kernel_rfl) (by kernel_rfl)
  have h7 := @run_callFunc_extern Tryz.prog 162 _ (ReflectliteValue.methodAny (ReflectliteValue.valueError "reflectlite.Value.Type" 0) (fun t _ _ _ => ReflectliteType.toType t)) Tryz.func162 (by kernel_rfl) (by kernel_rfl) (by kernel_rfl) (by kernel_rfl)
  have h8 := @run_callFunc_extern Tryz.prog 163 _ (ReflectliteValue.method (ReflectliteValue.valueError "reflectlite.Value.IsNil" 0) ReflectliteValue.isNil) Tryz.func163 (by kernel_rfl) (by kernel_rfl) (by kernel_rfl) (by kernel_rfl)
  have h27 := @run_callFunc_extern Tryz.prog 300 _ (ReflectliteType.abiMethod fun t => do pure (.int .u8 (← Rtype.kind t))) Tryz.func300 (by kernel_rfl) (by kernel_rfl) (by kernel_rfl) (by kernel_rfl)
  have h37 := @run_callFunc_extern Tryz.prog 312 _ (ReflectliteType.method ReflectliteType.elem) Tryz.func312 (by kernel_rfl) (by kernel_rfl) (by kernel_rfl) (by kernel_rfl)
  have h38 := @run_callFunc_extern Tryz.prog 313 _ (ReflectliteType.relation "Implements" ReflectliteType.implements_) Tryz.func313 (by kernel_rfl) (by kernel_rfl) (by kernel_rfl) (by kernel_rfl)
  have h10 := @run_callFunc_extern Tryz.prog 127 _ ReflectliteType.typeOf Tryz.func127 (by kernel_rfl) (by kernel_rfl) (by kernel_rfl) (by kernel_rfl)
  have h35 := @run_callFunc_extern Tryz.prog 310 _ (ReflectliteType.relation "AssignableTo" ReflectliteType.assignableTo) Tryz.func310 (by kernel_rfl) (by kernel_rfl) (by kernel_rfl) (by kernel_rfl)
  have h11 := @run_callFunc_extern Tryz.prog 209 _ (ReflectliteValue.method (ReflectliteValue.valueError "reflectlite.Value.Elem" 0) ReflectliteValue.elem) Tryz.func209 (by kernel_rfl) (by kernel_rfl) (by kernel_rfl) (by kernel_rfl)
  have h12 := @run_callFunc_extern Tryz.prog 210 _ ReflectliteValue.set Tryz.func210 (by kernel_rfl) (by kernel_rfl) (by kernel_rfl) (by kernel_rfl)
  have tO := Tryz.as_typeOf25
  have mA := Tryz.as_methodAssignableTo
  have a25 := Tryz.as_assignable25
  have v25 := Tryz.as_valueOf25
  have f6 := Tryz.as_valueOf27
  have f7 := Tryz.as_type27
  have mK := Tryz.as_methodKind
  have mE := Tryz.as_methodElem
  have mI := Tryz.as_methodImplements
  have k27 := Tryz.as_kind27
  have k25 := Tryz.as_kind25
  have e27 := Tryz.as_elem27
  have i25 := Tryz.as_implements25
  have n8 := Tryz.as_isNil27 ⟨w.heap.size, 0, none⟩ t ((w.alloc (.cells #[.pointer (some t)] 165)).alloc (.cells #[.pointer (some ⟨2, 165, none⟩), .pointer (some ⟨w.heap.size, 0, none⟩), .int .u64 150] 225)) (by simp)
  have hlt : 0 < w.heap.size := by
    rcases Nat.eq_zero_or_pos w.heap.size with h0 | h
    · simp [World.cell?, h0] at hg
    · exact h
  have hg2 : ((w.alloc (.cells #[.pointer (some t)] 165)).alloc (.cells #[.pointer (some ⟨2, 165, none⟩), .pointer (some ⟨w.heap.size, 0, none⟩), .int .u64 150] 225)).cell? ⟨0, 0, none⟩ = some (.iface 242 (.agg #[.pointer (some ⟨2, 72, none⟩)])) := by
    rw [World.cell?_alloc_lt _ _ ⟨0, 0, none⟩ (by simp), World.cell?_alloc_lt _ _ ⟨0, 0, none⟩ hlt]; exact hg
  have htl : t.block < w.heap.size := by
    rcases Nat.lt_or_ge t.block w.heap.size with h | h
    · exact h
    · simp [World.cell?, Array.getElem?_eq_none h] at ht0
  have el := Tryz.as_elemV27 ⟨w.heap.size, 0, none⟩ t (((w.alloc (.cells #[.pointer (some t)] 165)).alloc (.cells #[.pointer (some ⟨2, 165, none⟩), .pointer (some ⟨w.heap.size, 0, none⟩), .int .u64 150] 225)).alloc (.cells #[.pointer (some ⟨2, 165, none⟩), .pointer (some ⟨w.heap.size, 0, none⟩), .int .u64 150] 225)) (by rw [World.cell?_alloc_lt _ _ ⟨w.heap.size, 0, none⟩ (by simp; omega)]; simp)
  have st := Tryz.as_set25 t ⟨w.heap.size + 1 + 1 + 1, 0, none⟩ e old ((((w.alloc (.cells #[.pointer (some t)] 165)).alloc (.cells #[.pointer (some ⟨2, 165, none⟩), .pointer (some ⟨w.heap.size, 0, none⟩), .int .u64 150] 225)).alloc (.cells #[.pointer (some ⟨2, 165, none⟩), .pointer (some ⟨w.heap.size, 0, none⟩), .int .u64 150] 225)).alloc (.cells #[.int .i64 e] 118))
    (by rw [World.cell?_alloc_at _ _ _ _ (by simp)]; rfl)
    (by rw [World.cell?_alloc_lt _ _ t (by simp; omega), World.cell?_alloc_lt _ _ t (by simp; omega), World.cell?_alloc_lt _ _ t (by simp; omega), World.cell?_alloc_lt _ _ t htl]; exact ht0)
    (by rw [World.frozen?_alloc_old _ _ t (by simp; omega), World.frozen?_alloc_old _ _ t (by simp; omega), World.frozen?_alloc_old _ _ t (by simp; omega), World.frozen?_alloc_old _ _ t (Nat.ne_of_lt htl)]; exact hf0)
  go_enter Tryz.func105, Tryz.ntmps105
  go_wp2
  refine wp_loop_rounds 1 ?_
  rw [rounds_succ]
  go_wp2
  go_ret
  exact ⟨rfl, rfl⟩
end Go.Proofs
/- An error's number: by its contract; both as triples. -/

set_option linter.all false
namespace Go.Proofs
open Go.RowKit Go.Extern.Stop Go.Stop Go.Extern
end Go.Proofs
namespace Go.Proofs
open Go Go.Ev
/-- an error: none, or a number -/
def errV : Option Int → AV
  | none => .nili
  | some n => .iface 118 (.int .i64 n)
theorem errV_inv {φ : Phi} {e : Option Int} {v : Value} (h : VRel Tryz.prog φ (errV e) v) : v = (match e with | none => .nilIface | some n => .iface 118 (.int .i64 n)) := by
  cases e with
  | none => cases h; rfl
  | some n => cases h with | iface _ _ v' h => cases h; rfl
theorem two_args {φ : Phi} {a b : AV} {args : Array Value} (h : VRels Tryz.prog φ [a, b] args.toList) : ∃ v u, args = #[v, u] ∧ VRel Tryz.prog φ a v ∧ VRel Tryz.prog φ b u := by
  cases hl : args.toList with
  | nil => rw [hl] at h; cases h
  | cons v l =>
    rw [hl] at h
    cases h with
    | cons _ _ _ _ h1 h2 =>
      cases h2 with
      | cons _ _ u _ h3 h4 =>
        cases h4
        exact ⟨v, u, by rw [← Array.toArray_toList (xs := args), hl], h1, h3⟩
variable {H : Heap}
theorem f64_ok (a : Option Int) (b : Int) : FnOk Tryz.prog 64 [errV a, .iface 118 (.int .i64 b)] H fun r G => r = .bool (decide (a = some b)) ∧ G = H := by
  refine FnOk.of_calls fun φ w args' ha hw => ?_
  obtain ⟨v, u, rfl, h1, h2⟩ := two_args ha
  have e1 := errV_inv h1
  have e2 := errV_inv (e := some b) h2
  cases a with
  | none =>
    obtain rfl : v = .nilIface := e1
    obtain rfl : u = .iface 118 (.int .i64 b) := e2
    refine (is_nil b w).mono ?_
    rintro e w' ⟨rfl, rfl⟩
    exact ⟨⟨_, rfl, .bool _⟩, Grows.refl _⟩
  | some a =>
    obtain rfl : v = .iface 118 (.int .i64 a) := e1
    obtain rfl : u = .iface 118 (.int .i64 b) := e2
    refine (is_num a b w).mono ?_
    rintro e w' ⟨rfl, rfl⟩
    refine ⟨⟨_, rfl, ?_⟩, Grows.refl _⟩
    rw [show decide (some a = some b) = (a == b) by by_cases h : a = b <;> simp [h]]
    exact .bool _
end Go.Proofs
/- cut: small functions, walked. -/




set_option linter.all false
set_option linter.all false
set_option maxRecDepth 100000
namespace Go.Proofs
open Go Go.Ev
variable {H : Heap}

def isID (n : Int) : Prop := 1 ≤ n ∧ n ≤ 1000000000000
instance (n : Int) : Decidable (isID n) := inferInstanceAs (Decidable (_ ∧ _))
structure Evn where
  key : List Nat
  ver : Int
  val : List Nat
  del : Bool
  deriving DecidableEq
def Evn.enc (e : Evn) : List AV := [.str e.key, .int .i64 e.ver, .str e.val, .bool e.del]
theorem Evn.rens (ρ : K → K) (c : Evn) : AV.rens ρ c.enc = c.enc := by simp only [Evn.enc, AV.rens, AV.ren]
theorem Evn.map_rens (ρ : K → K) (l : List Evn) : (l.map Evn.enc).map (AV.rens ρ) = l.map Evn.enc := by
  rw [List.map_map]; exact List.map_congr_left fun c _ => Evn.rens ρ c
def isEv (e : Evn) : Prop := mayBe e.key e.val e.ver e.del
instance (e : Evn) : Decidable (isEv e) := inferInstanceAs (Decidable (mayBe ..))
theorem f121_ok (e : Evn) : FnOk Tryz.prog 121 [.agg e.enc] H fun r G => r = .bool (decide (isEv e)) ∧ G = H := by
  refine FnOk.drop (R := fun r => r = .bool (decide (isEv e))) ?_ (by rintro v rfl ρ; rw [AV.ren])
  refine FnOk.of_WW Tryz.func121 rfl C121ok R121ok E0 good_E0 ?_
  simp only [go_sem, C121, Evn.enc]
  refine CL.one (f170_ok e.key e.val e.ver e.del) ?_
  simp only [go_sem]
  exact ⟨fun g => ⟨bool_t g, _, rfl⟩, fun g => ⟨bool_f g, _, rfl⟩⟩
end Go.Proofs
/- history: whether a cell's events are all from its floor up to its version: walked. -/

set_option linter.all false
set_option linter.all false
set_option maxRecDepth 100000
namespace Go.Proofs
open Go Go.Ev
variable {H : Heap}

/-- events of a key, version by version -/
def runE (k : List Nat) : List Evn → Int × Evn → Option (Int × Evn)
  | [], s => some s
  | e :: l, s => if e.key = k then (if e.ver = s.1 + 1 then runE k l (e.ver, e) else none) else runE k l s
def lastOf (c : Cell) : Evn := ⟨[], 0, c.value, c.del⟩
/-- a cell's events -/
def ofH (l : List Evn) (c : Cell) : Prop := ∃ s, runE c.key l (c.floor, lastOf c) = some s ∧ s.1 = c.ver ∧ s.2.val = c.value ∧ s.2.del = c.del
noncomputable instance (l : List Evn) (c : Cell) : Decidable (ofH l c) := Classical.propDecidable _
theorem drop_at {l : List Evn} {i : Nat} {e : Evn} (h : l[i]? = some e) : l.drop i = e :: l.drop (i + 1) := by
  obtain ⟨hl, rfl⟩ := List.getElem?_eq_some_iff.1 h
  exact List.drop_eq_getElem_cons hl
theorem f123_ok {v : AV} {l : List Evn} (hA : Arr H 4 v (l.map Evn.enc)) (hl : l.length < 9223372036854775807) (c : Cell) (hf : 0 ≤ c.floor ∧ c.floor ≤ 1000000000000) (he : ∀ e ∈ l, 1 ≤ e.ver ∧ e.ver ≤ 1000000000000) :
    FnOk Tryz.prog 123 [v, .agg c.enc] H fun r G => r = .bool (decide (ofH l c)) ∧ G = H := by
  refine FnOk.assume fun hok => ?_
  refine FnOk.drop (R := fun r => r = .bool (decide (ofH l c))) ?_ (by rintro v rfl ρ; rw [AV.ren])
  refine FnOk.of_WW Tryz.func123 rfl C123ok R123ok E0 good_E0 ?_
  have hlen := fun G => hA.len G; simp only [List.length_map] at hlen; have hren := hA.ren
  simp only [go_sem, C123, Cell.enc, hlen]
  refine LL.st good_E0 (fun s : Nat × Int × Evn => l.length - s.1) (fun s => s.1 ≤ l.length ∧ (0 ≤ s.2.1 ∧ s.2.1 ≤ 1000000000000) ∧ runE c.key l (c.floor, lastOf c) = runE c.key (l.drop s.1) s.2)
    (fun s => [((.o (.o .z)), .ptr (H.key 0) 0), ((.o (.i .z)), .int .i64 s.2.1), ((.i (.i .z)), .ptr (H.key 1) 0), ((.i (.o (.o (.o .z)))), v), ((.o (.i (.o (.o .z)))), .int .i64 l.length), ((.i (.i (.o (.o .z)))), .int .i64 s.1)])
    (fun s => [.row true 5 [[.str c.key, .str c.value, .int .i64 c.ver, .bool c.del, .int .i64 c.floor]], .row true 4 [[.str s.2.2.key, .int .i64 s.2.2.ver, .str s.2.2.val, .bool s.2.2.del]]]) ?_ (0, c.floor, lastOf c) (σ := [0, 1]) (Wk.of rfl (by decide) (by simp only [go_sem, hren]) (by simp only [go_sem, lastOf])) ⟨Nat.zero_le _, hf, rfl⟩
  rintro ⟨i, at_, last⟩ ⟨hi, hat, hrun⟩
  simp only at hi hat hrun
  by_cases hlt : i < l.length
  · obtain ⟨kk, r, ex', cap', wr, rows, hv, hrho, hgo, hrow⟩ := hA.at hok (j := i) (by rw [List.length_map]; exact hlt); simp only [List.length_map, List.getElem_map] at hv hrow; cases hv; have hget : l[i]? = some l[i] := List.getElem?_eq_getElem hlt; generalize l[i] = e at hrow hget; have hw := wrap_succ (n := i) (by omega); have hci : (i : Int) < (l.length : Int) := (by omega); have hsi : i + 1 ≤ l.length := (by omega)
    have hev := he e (List.mem_of_getElem? hget)
    rw [drop_at hget, runE] at hrun
    have hw2 : IntKind.i64.wrap (at_ + 1) = at_ + 1 := wrap_i64 (by omega) (by omega)
    simp only [go_sem, hlen, hci, hsi, hgo, hrow, hw, hw2, Evn.enc]
    have hno : runE c.key l (c.floor, lastOf c) = none → AV.bool false = .bool (decide (ofH l c)) := fun h => bool_f fun ⟨q, hq, _⟩ => by rw [h] at hq; cases hq
    refine ⟨fun g => ?_, fun g => ⟨fun g2 => ?_, fun g2 => ?_⟩⟩
    · rw [if_neg g] at hrun
      exact ⟨(i + 1, at_, last), by show l.length - (i + 1) < l.length - i; omega, ⟨by show i + 1 ≤ l.length; omega, hat, hrun⟩, _, [0, 1], rfl, Wk.of rfl (by decide) (by simp only [go_sem, hrho, hw]) (by simp only [go_sem])⟩
    · rw [if_pos (Classical.not_not.1 g), if_neg g2] at hrun
      exact ⟨hno hrun, _, rfl⟩
    · rw [if_pos (Classical.not_not.1 g), if_pos (Classical.not_not.1 g2)] at hrun
      exact ⟨(i + 1, e.ver, e), by show l.length - (i + 1) < l.length - i; omega, ⟨by show i + 1 ≤ l.length; omega, ⟨by show 0 ≤ e.ver; omega, by show e.ver ≤ _; omega⟩, hrun⟩, _, [0, 1], rfl, Wk.of rfl (by decide) (by simp only [go_sem, hrho, hw]) (by simp only [go_sem])⟩
  · have hci : ¬ (i : Int) < (l.length : Int) := by omega
    rw [List.drop_eq_nil_of_le (by omega), runE] at hrun
    simp only [go_sem, hci]
    have hof : ofH l c ↔ at_ = c.ver ∧ last.val = c.value ∧ last.del = c.del := by
      unfold ofH
      rw [hrun]
      exact ⟨fun ⟨q, h, h1⟩ => by cases h; exact h1, fun h => ⟨_, rfl, h⟩⟩
    refine ⟨fun g1 => ⟨fun g2 => ⟨fun g3 => ⟨bool_t (hof.2 ⟨g1, g2, g3⟩), _, rfl⟩, fun g3 => ⟨bool_f fun h => g3 (hof.1 h).2.2, _, rfl⟩⟩, fun g2 => ⟨bool_f fun h => g2 (hof.1 h).2.1, _, rfl⟩⟩, fun g1 => ⟨bool_f fun h => g1 (hof.1 h).1, _, rfl⟩⟩
end Go.Proofs
/- history, shards: whether they are any: walked. -/

set_option linter.all false
set_option linter.all false
set_option maxRecDepth 100000
namespace Go.Proofs
open Go Go.Ev
variable {H : Heap}

attribute [go_sem] mkfR
theorem f122_ok {k : K} {wr : Bool} {v : AV} {l : List Evn} (hk : H.get k = some (.row wr 1 [[v]])) (hA : Arr H 4 v (l.map Evn.enc)) (hl : l.length < 9223372036854775807) (c : Cell) (hf : 0 ≤ c.floor ∧ c.floor ≤ 1000000000000) (he : ∀ e ∈ l, 1 ≤ e.ver ∧ e.ver ≤ 1000000000000) :
    FnOk Tryz.prog 122 [.agg c.enc, .ptr k 0] H fun r G => r = .bool (decide (¬ ofH l c)) ∧ G = H := by
  refine FnOk.assume fun hok => ?_
  refine FnOk.drop (R := fun r => r = .bool (decide (¬ ofH l c))) ?_ (by rintro v rfl ρ; rw [AV.ren])
  refine FnOk.of_WW Tryz.func122 rfl C122ok R122ok E0 good_E0 ?_
  have hgo := Heap.get_ext_old hok hk
  simp only [go_sem, C122, Cell.enc, hgo]
  refine CL.bool (f123_ok (hA.ext _) hl c hf he) (fun g => ?_) (fun g => ?_)
  · simp only [go_sem]
    exact ⟨bool_f fun h => h g, _, rfl⟩
  · simp only [go_sem]
    exact ⟨bool_t g, _, rfl⟩
theorem f118_ok {v : AV} {l : List Cell} (hA : Arr H 5 v (l.map Cell.enc)) (hl : l.length ≤ 9223372036854775807) {g : FuncId} {caps : List AV} (hcall : ∀ args H, callC Tryz.prog g args H = .call g args)
    (hcaps : ∀ top σ, AV.ren (rho H top σ) (.fn (.func g) [] caps) = .fn (.func g) [] caps) {p : Cell → Prop} [DecidablePred p] (hg : ∀ c ∈ l, ∀ L, FnOk Tryz.prog g (.agg c.enc :: caps) (H.ext L) fun r G => r = .bool (decide (p c)) ∧ G = H.ext L) :
    FnOk Tryz.prog 118 [v, .fn (.func g) [] caps] H fun r G => (∃ n : Int, r = .int .i64 n ∧ (0 ≤ n ↔ ∃ c ∈ l, p c)) ∧ G = H := by
  refine FnOk.assume fun hok => ?_
  refine FnOk.drop (R := fun r => ∃ n : Int, r = .int .i64 n ∧ (0 ≤ n ↔ ∃ c ∈ l, p c)) ?_ (by rintro v ⟨n, rfl, _⟩ ρ; rw [AV.ren])
  refine FnOk.of_WW Tryz.func118 rfl C118ok R118ok E0 good_E0 ?_
  have hlen := fun G => hA.len G; simp only [List.length_map] at hlen; have hren := hA.ren
  simp only [go_sem, C118, hlen]
  refine LL.st good_E0 (fun i : Nat => l.length - i) (fun i => i ≤ l.length ∧ ∀ j d, j < i → l[j]? = some d → ¬ p d)
    (fun i => [(.z, v), ((.o .z), .fn (.func g) [] caps), ((.i (.i .z)), v), ((.o (.o (.o .z))), .int .i64 l.length), ((.i (.o (.o .z))), .int .i64 i)]) (fun i => []) ?_ 0 (σ := []) (Wk.of rfl (by decide) (by simp only [go_sem, hren, ↓hcaps]) (by simp only [go_sem])) ⟨Nat.zero_le _, fun j d h => absurd h (Nat.not_lt_zero _)⟩
  rintro i ⟨hi, hno⟩
  by_cases hlt : i < l.length
  · obtain ⟨kk, r, ex', cap', wr, rows, hv, hrho, hgo, hrow⟩ := hA.at hok (j := i) (by rw [List.length_map]; exact hlt); simp only [List.length_map, List.getElem_map] at hv hrow; cases hv; have hget : l[i]? = some l[i] := List.getElem?_eq_getElem hlt; generalize l[i] = c at hrow hget; have hw := wrap_succ (n := i) (by omega); have hci : (i : Int) < (l.length : Int) := (by omega); have hsi : i + 1 ≤ l.length := (by omega)
    have hgc := hg c (List.mem_of_getElem? hget)
    simp only [Cell.enc] at hgc
    simp only [go_sem, hci, hsi, hgo, hrow, hw, Cell.enc, hcall]
    refine CL.bool (hgc _) (fun g => ?_) (fun g => ?_)
    · simp only [go_sem]
      exact ⟨⟨_, rfl, fun _ => ⟨c, List.mem_of_getElem? hget, g⟩, fun _ => by omega⟩, _, rfl⟩
    · simp only [go_sem, hw]
      refine ⟨i + 1, by show l.length - (i + 1) < l.length - i; omega, ⟨by omega, fun j d hj hd => ?_⟩, _, [], rfl, Wk.of rfl (by decide) (by simp only [go_sem, hren, hrho, ↓hcaps, hw]) (by simp only [go_sem])⟩
      rcases Nat.lt_or_ge j i with h | h
      · exact hno j d h hd
      · obtain rfl : j = i := by omega
        rw [hget] at hd; cases hd; exact g
  · have hci : ¬ (i : Int) < (l.length : Int) := by omega
    simp only [go_sem, hci]
    refine ⟨⟨_, rfl, fun h => absurd h (by decide), ?_⟩, _, rfl⟩
    rintro ⟨d, hd, hb⟩
    obtain ⟨j, hj⟩ := List.mem_iff_getElem?.1 hd
    exact absurd hb (hno j d (by have := (List.getElem?_eq_some_iff.1 hj).1; omega) hj)
noncomputable instance (l : List Cell) (p : Cell → Prop) : Decidable (∃ c ∈ l, p c) := Classical.propDecidable _
theorem f58_ok {v : AV} {l : List Cell} (hA : Arr H 5 v (l.map Cell.enc)) (hl : l.length ≤ 9223372036854775807) {g : FuncId} {caps : List AV} (hcall : ∀ args H, callC Tryz.prog g args H = .call g args)
    (hcaps : ∀ top σ, AV.ren (rho H top σ) (.fn (.func g) [] caps) = .fn (.func g) [] caps) {p : Cell → Prop} [DecidablePred p] (hg : ∀ c ∈ l, ∀ L, FnOk Tryz.prog g (.agg c.enc :: caps) (H.ext L) fun r G => r = .bool (decide (p c)) ∧ G = H.ext L) :
    FnOk Tryz.prog 58 [v, .fn (.func g) [] caps] H fun r G => r = .bool (decide (∃ c ∈ l, p c)) ∧ G = H := by
  refine FnOk.drop (R := fun r => r = .bool (decide (∃ c ∈ l, p c))) ?_ (by rintro v rfl ρ; rw [AV.ren])
  refine FnOk.of_WW Tryz.func58 rfl C58ok R58ok E0 good_E0 ?_
  simp only [go_sem, C58]
  have h := f118_ok hA hl hcall hcaps hg
  rw [← Heap.ext_nil H] at h
  refine CL.of h ?_
  rintro _ _ ⟨⟨n, rfl, hn⟩, rfl⟩
  simp only [go_sem]
  exact ⟨fun h => ⟨bool_t (hn.1 h), [], rfl⟩, fun h => ⟨bool_f fun e => h (hn.2 e), [], rfl⟩⟩
/-- events of cells -/
def isHist (l : List Evn) (cells : List Cell) : Prop := isIdx cells ∧ (∀ e ∈ l, (getL cells e.key).2 = true ∧ isEv e) ∧ ∀ c ∈ cells, ofH l c
noncomputable instance (l : List Evn) (cells : List Cell) : Decidable (isHist l cells) := Classical.propDecidable _
theorem isIdx.cell {cells : List Cell} (h : isIdx cells) {c : Cell} (hc : c ∈ cells) : cellIs c := by
  obtain ⟨j, hj⟩ := List.mem_iff_getElem?.1 hc
  have := h j (List.getElem?_eq_some_iff.1 hj).1
  obtain ⟨c', h1, h2, _⟩ := this
  rw [hj] at h1; cases h1; exact h2
end Go.Proofs
/- history, shards: whether they are any: walked. -/

set_option linter.all false
set_option linter.all false
set_option maxRecDepth 100000
namespace Go.Proofs
open Go Go.Ev
variable {H : Heap}

theorem arr_agg {esz : Nat} {v : AV} {xs : List (List AV)} (h : Arr H esz v xs) {β : Type} (f : β) (c : List AV → β) : asAggC v f c = f := by
  rcases h.forms with ⟨rfl, _⟩ | ⟨k, off, ex, cap, rfl, _⟩ <;> rfl
theorem arr_one {esz : Nat} {v : AV} {xs : List (List AV)} (h : Arr H esz v xs) : AV.one v = true := by
  rcases h.forms with ⟨rfl, _⟩ | ⟨k, off, ex, cap, rfl, _⟩ <;> rfl
theorem isEv.ver {e : Evn} (h : isEv e) : 1 ≤ e.ver ∧ e.ver ≤ 1000000000000 := ⟨h.2.2.2.1, h.2.2.2.2⟩
theorem cellIs.floor {c : Cell} (h : cellIs c) : 0 ≤ c.floor ∧ c.floor ≤ 1000000000000 := ⟨h.2.1, by have := h.1.2.2.2.2; have := h.2.2; omega⟩
theorem cap_ren {H : Heap} {b : Blk} {g : FuncId} (L : List Blk) (top : Nat) (σ : List Nat) : AV.ren (rho ((H.ext [b]).ext L) top σ) (.fn (.func g) [] [.ptr (H.key 0) 0]) = .fn (.func g) [] [.ptr (H.key 0) 0] := by
  have : rho ((H.ext [b]).ext L) top σ (H.key 0) = H.key 0 := rho_old (by rw [Heap.nx_ext, Heap.toNat_key, Heap.toNat_key, Heap.nx_ext, Heap.toNat_key]; simp; omega)
  simp only [AV.ren, AV.rens, this]
theorem get_first {H : Heap} {b : Blk} (L M : List Blk) : ((H.ext (b :: L)).ext M).get (H.key 0) = some b := by
  rw [Heap.ext_append, Heap.get_ext_key _ _ _ (by simp)]; rfl
theorem f59_ok {v u : AV} {l : List Evn} {cs : List Cell} (hA : Arr H 4 v (l.map Evn.enc)) (hB : Arr H 5 u (cs.map Cell.enc)) (hl : l.length < 4294967296) (hc : cs.length < 4294967296) :
    FnOk Tryz.prog 59 [v, u] H fun r G => r = .bool (decide (isHist l cs)) ∧ G = H := by
  refine FnOk.assume fun hok => ?_
  refine FnOk.drop (R := fun r => r = .bool (decide (isHist l cs))) ?_ (by rintro v rfl ρ; rw [AV.ren])
  refine FnOk.of_WW Tryz.func59 rfl C59ok R59ok E0 good_E0 ?_
  have hlen := fun G => hA.len G; simp only [List.length_map] at hlen; have hren := hA.ren
  have hren2 := hB.ren
  have hag := fun {β : Type} => arr_agg hA (β := β)
  have hon := arr_one hA
  simp only [go_sem, C59, hag, hon]
  refine CL.bool (f119_ok (hB.ext _) hc) (fun g1 => ?_) (fun g1 => ?_)
  rotate_left
  · simp only [go_sem]
    exact ⟨bool_f fun h => g1 h.1, _, rfl⟩
  simp only [go_sem, hlen]
  refine LL.st good_E0 (fun i : Nat => l.length - i) (fun i => i ≤ l.length ∧ ∀ j d, j < i → l[j]? = some d → (getL cs d.key).2 = true ∧ isEv d)
    (fun i => [((.o .z), u), ((.i .z), .ptr (H.key 0) 0), ((.i (.o (.i .z))), v), ((.o (.i (.i .z))), .int .i64 l.length), ((.i (.i (.i .z))), .int .i64 i)]) (fun i => [.row true 1 [[v]]]) ?_ 0 (σ := [0]) (Wk.of rfl (by decide) (by simp only [go_sem, hren, hren2]) (by simp only [go_sem, hren])) ⟨Nat.zero_le _, fun j d h => absurd h (Nat.not_lt_zero _)⟩
  rintro i ⟨hi, hno⟩
  by_cases hlt : i < l.length
  · have hren' := hren
    obtain ⟨kk, r, ex', cap', wr, rows, hv, hrho, hgo, hrow⟩ := hA.at hok (j := i) (by rw [List.length_map]; exact hlt); simp only [List.length_map, List.getElem_map] at hv hrow; cases hv; have hget : l[i]? = some l[i] := List.getElem?_eq_getElem hlt; generalize l[i] = e at hrow hget; have hw := wrap_succ (n := i) (by omega); have hci : (i : Int) < (l.length : Int) := (by omega); have hsi : i + 1 ≤ l.length := (by omega)
    have hbad : ¬ ((getL cs e.key).2 = true ∧ isEv e) → AV.bool false = .bool (decide (isHist l cs)) := fun h => bool_f fun g => h (g.2.1 e (List.mem_of_getElem? hget))
    simp only [go_sem, hci, hsi, hgo, hrow, hw, Evn.enc]
    refine CL.of (f120_ok (hB.ext _) hc e.key) ?_
    rintro _ _ ⟨rfl, rfl⟩
    generalize hq : getL cs e.key = q at *
    obtain ⟨q, b⟩ := q
    cases b
    · simp only [go_sem, Cell.enc]
      exact ⟨hbad fun h => (by cases h.1), _, rfl⟩
    · simp only [go_sem, Cell.enc]
      refine CL.bool (f121_ok e) (fun g => ?_) (fun g => ?_)
      · simp only [go_sem]
        refine ⟨i + 1, by show l.length - (i + 1) < l.length - i; omega, ⟨by omega, fun j d hj hd => ?_⟩, _, [0], rfl, Wk.of rfl (by decide) (by simp only [go_sem, hren2, hrho, hw]) (by simp only [go_sem, hrho])⟩
        rcases Nat.lt_or_ge j i with h | h
        · exact hno j d h hd
        · obtain rfl : j = i := by omega
          rw [hget] at hd; cases hd; exact ⟨by rw [hq], g⟩
      · simp only [go_sem]
        exact ⟨hbad fun h => g h.2, _, rfl⟩
  · have hci : ¬ (i : Int) < (l.length : Int) := by omega
    have hall : ∀ e ∈ l, (getL cs e.key).2 = true ∧ isEv e := fun e he => by
      obtain ⟨j, hj⟩ := List.mem_iff_getElem?.1 he
      exact hno j e (by have := (List.getElem?_eq_some_iff.1 hj).1; omega) hj
    simp only [go_sem, hci]
    refine CL.bool (f58_ok (hB.ext _) (by omega) (fun _ _ => call122 ..) (fun top σ => by have := cap_ren (H := H) (b := .row true 1 [[v]]) (g := 122) [] top σ; rwa [Heap.ext_nil] at this) (p := fun c => ¬ ofH l c) fun c hcm L => f122_ok (get_first [] L) ((hA.ext _).ext _) (by omega) c (g1.cell hcm).floor fun e he => (hall e he).2.ver) (fun g => ?_) (fun g => ?_)
    · simp only [go_sem]
      obtain ⟨c, h1, h2⟩ := g
      exact ⟨bool_f fun h => h2 (h.2.2 c h1), _, rfl⟩
    · simp only [go_sem]
      exact ⟨bool_t ⟨g1, hall, fun c hcm => Classical.byContradiction fun h => g ⟨c, hcm, h⟩⟩, _, rfl⟩
structure Sh where
  id : Int
  ep : Int
  fr : List Nat
  to : List Nat
  frz : Bool
  cells : List Cell
  evs : List Evn
  done : List Dn
  cv : AV
  ev : AV
  dv : AV
def Sh.enc (s : Sh) : List AV := [.int .i64 s.id, .int .i64 s.ep, .str s.fr, .str s.to, .bool s.frz, s.cv, s.ev, s.dv]
structure Sh.ok (H : Heap) (s : Sh) : Prop where
  c : Arr H 5 s.cv (s.cells.map Cell.enc)
  e : Arr H 4 s.ev (s.evs.map Evn.enc)
  d : Arr H 6 s.dv (s.done.map Dn.enc)
  dok : allOk H s.done
  cl : s.cells.length < 4294967296
  el : s.evs.length < 4294967296
  dl : s.done.length < 4294967296
theorem Sh.ok.ext {s : Sh} (h : s.ok H) (L : List Blk) : s.ok (H.ext L) := ⟨h.c.ext L, h.e.ext L, h.d.ext L, h.dok.ext L, h.cl, h.el, h.dl⟩
/-- a shard -/
def isSh (s : Sh) : Prop := (1 ≤ s.id ∧ s.id ≤ 1000000000000 ∧ 1 ≤ s.ep ∧ s.ep ≤ 1000000) ∧ isSpan s.fr s.to ∧ (∀ c ∈ s.cells, has s.fr s.to c.key) ∧ (s.evs.length : Int) ≤ 24 ∧ isHist s.evs s.cells ∧ isDone s.done
noncomputable instance (s : Sh) : Decidable (isSh s) := Classical.propDecidable _
theorem f55_ok {k : K} {wr : Bool} {s : Sh} (hk : H.get k = some (.row wr 8 [[.int .i64 s.id, .int .i64 s.ep, .str s.fr, .str s.to, .bool s.frz, s.cv, s.ev, s.dv]])) (c : Cell) :
    FnOk Tryz.prog 55 [.agg c.enc, .ptr k 0] H fun r G => r = .bool (decide (¬ has s.fr s.to c.key)) ∧ G = H := by
  refine FnOk.assume fun hok => ?_
  refine FnOk.drop (R := fun r => r = .bool (decide (¬ has s.fr s.to c.key))) ?_ (by rintro v rfl ρ; rw [AV.ren])
  refine FnOk.of_WW Tryz.func55 rfl C55ok R55ok E0 good_E0 ?_
  have hgo := Heap.get_ext_old hok hk
  simp only [go_sem, C55, Cell.enc, hgo]
  refine CL.bool (f56_ok s.fr s.to c.key) (fun g => ?_) (fun g => ?_)
  · simp only [go_sem]
    exact ⟨bool_f fun h => h g, _, rfl⟩
  · simp only [go_sem]
    exact ⟨bool_t g, _, rfl⟩
theorem f24_ok {s : Sh} (h : s.ok H) : FnOk Tryz.prog 24 [.agg s.enc] H fun r G => r = .bool (decide (isSh s)) ∧ G = H := by
  refine FnOk.assume fun hok => ?_
  refine FnOk.drop (R := fun r => r = .bool (decide (isSh s))) ?_ (by rintro v rfl ρ; rw [AV.ren])
  refine FnOk.of_WW Tryz.func24 rfl C24ok R24ok E0 good_E0 ?_
  have hlen := fun G => h.e.len G
  simp only [List.length_map] at hlen
  simp only [go_sem, C24, Sh.enc]
  have hbad : ¬ isSh s → AV.bool false = .bool (decide (isSh s)) := fun g => bool_f g
  refine ⟨fun g1 => ⟨hbad fun g => absurd g.1.1 (by omega), _, rfl⟩, fun g1 => ⟨fun g2 => ⟨hbad fun g => absurd g.1.2.1 (by omega), _, rfl⟩, fun g2 => ⟨fun g3 => ⟨hbad fun g => absurd g.1.2.2.1 (by omega), _, rfl⟩, fun g3 => ⟨fun g4 => ⟨hbad fun g => absurd g.1.2.2.2 (by omega), _, rfl⟩, fun g4 => ?_⟩⟩⟩⟩
  refine CL.bool (f57_ok s.fr s.to) (fun g5 => ?_) (fun g5 => ?_)
  rotate_left
  · simp only [go_sem]
    exact ⟨hbad fun g => g5 g.2.1, _, rfl⟩
  simp only [go_sem]
  refine CL.bool (f58_ok (l := s.cells) (h.c.ext _) (by have := h.cl; omega) (fun _ _ => call55 ..) (fun top σ => by have := cap_ren (H := H) (b := .row true 8 [[.int .i64 s.id, .int .i64 s.ep, .str s.fr, .str s.to, .bool s.frz, s.cv, s.ev, s.dv]]) (g := 55) [] top σ; rwa [Heap.ext_nil] at this) (p := fun c => ¬ has s.fr s.to c.key) fun c hcm L => f55_ok (get_first [] L) c) (fun g6 => ?_) (fun g6 => ?_)
  · simp only [go_sem]
    obtain ⟨c, h1, h2⟩ := g6
    exact ⟨hbad fun g => h2 (g.2.2.1 c h1), _, rfl⟩
  simp only [go_sem, hlen]
  refine ⟨fun g7 => ⟨hbad fun g => absurd g.2.2.2.1 (by omega), _, rfl⟩, fun g7 => ?_⟩
  refine CL.bool (f59_ok (h.e.ext _) (h.c.ext _) h.el h.cl) (fun g8 => ?_) (fun g8 => ?_)
  rotate_left
  · simp only [go_sem]
    exact ⟨hbad fun g => g8 g.2.2.2.2.1, _, rfl⟩
  simp only [go_sem]
  refine CL.bool (f60_ok (h.d.ext _) (h.dok.ext _) (by have := h.dl; omega)) (fun g9 => ?_) (fun g9 => ?_)
  rotate_left
  · simp only [go_sem]
    exact ⟨hbad fun g => g9 g.2.2.2.2.2, _, rfl⟩
  simp only [go_sem]
  exact ⟨bool_t ⟨⟨by omega, by omega, by omega, by omega⟩, g5, fun c hc => Classical.byContradiction fun g => g6 ⟨c, hc, g⟩, by omega, g8, g9⟩, _, rfl⟩
end Go.Proofs
/- cut: what is in a part; clones: walked. -/

set_option linter.all false
set_option linter.all false
set_option maxRecDepth 100000
namespace Go.Proofs
open Go Go.Ev
variable {H : Heap}

/-- blocks that are let go, the others renamed -/
theorem FnOk.dropW {f : FuncId} {args : List AV} {V : AV} {bs : List Blk} (h : FnOk Tryz.prog f args H fun v G => ∃ l σ, v = V.ren (rho H l.length σ) ∧ G = H.ext l ∧ bs.length = σ.length ∧ σ.Nodup ∧ WkB l (rho H l.length σ) bs σ) :
    FnOk Tryz.prog f args H fun v G => v = V ∧ G = H.ext bs := by
  refine h.wk ?_
  rintro v G ⟨l, σ, hv, hG, h1, h2, h3⟩
  exact ⟨l, bs, σ, V, hG, hv, h1, h2, h3.all, rfl, rfl⟩
def nilB (v : AV) : Bool := match v with | .nils => true | _ => false
theorem FnOk.dropZd {z : Bool} {f : FuncId} {args : List AV} {esz n : Nat} {xs : List (List AV)} (hn : xs.length = n) (hx : ∀ top σ, xs.map (AV.rens (rho H top σ)) = xs)
    (h : FnOk Tryz.prog f args H fun v G => ∃ l i, v = zV z (H.key i) esz n ∧ G = H.ext l ∧ ((zB z esz xs).live → l[i]? = some (zB z esz xs))) :
    FnOk Tryz.prog f args H fun v G => v = zV z H.nx esz n ∧ G = H.ext [zB z esz xs] := by
  subst hn
  refine h.wk ?_
  rintro v G ⟨l, i, rfl, rfl, hl⟩
  refine ⟨l, [zB z esz xs], [i], zV z H.nx esz xs.length, rfl, ?_, rfl, by simp, ?_, rfl, rfl⟩
  · rw [zV_ren, ← Heap.key_zero, rho_key rfl]
  · intro p hp
    simp only [List.zip_cons_cons, List.zip_nil_left, List.mem_singleton] at hp
    subst hp
    intro hlive
    show l[i]? = some (Blk.ren _ (zB z esz xs))
    rw [zB_ren _ (hx _ _), hl hlive]
theorem clone_zd {f : FuncId} {esz bytes : Nat} {zero : List AV} (hf : CloFn Tryz.prog f esz bytes zero) {v : AV} {xs : List (List AV)} (hA : Arr H esz v xs) (hb : (2 * xs.length + 192) * bytes ≤ 281474976710656) (hx : ∀ top σ, xs.map (AV.rens (rho H top σ)) = xs) :
    FnOk Tryz.prog f [v] H fun r G => r = zV (nilB v) H.nx esz xs.length ∧ G = H.ext [zB (nilB v) esz xs] := by
  refine FnOk.dropZd rfl hx ?_
  rcases hA with ⟨rfl, rfl⟩ | ⟨k, off, ex, cap, rfl, hk, h⟩
  · refine (clone_nil hf).mono ?_
    rintro v G ⟨rfl, rfl⟩
    exact ⟨[], 0, rfl, (Heap.ext_nil _).symm, fun h => h.elim⟩
  · rcases Nat.eq_zero_or_pos xs.length with h0 | h0
    · obtain rfl := List.length_eq_zero_iff.1 h0
      refine (clone_zero hf).mono ?_
      rintro v G ⟨rfl, rfl⟩
      exact ⟨_, 0, rfl, rfl, fun _ => rfl⟩
    · obtain ⟨r, wr, rows, rfl, hg, hrow⟩ := h (by intro e; rw [e] at h0; simp at h0)
      have hn : r + xs.length ≤ rows.length := by
        have := congrArg List.length hrow
        rw [List.length_take, List.length_drop] at this
        omega
      have key := clone_arr hf hg hn h0 hb (ex := ex) (cap := cap)
      rw [hrow] at key
      refine key.mono ?_
      rintro v G ⟨rfl, rfl⟩
      exact ⟨_, 1, (zV_pos h0).symm, rfl, fun _ => by rw [zB_pos h0]; rfl⟩
theorem clo75 : CloFn Tryz.prog 107 4 48 [.str [], .int .i64 0, .str [], .bool false] := ⟨⟨Tryz.f107, Tryz.func107, by kernel_rfl, by kernel_rfl⟩, rfl, by decide⟩
@[go_sem] theorem agg_o {β : Type} (k : K) (e n : Nat) (f : β) (c : List AV → β) : asAggC (outV k e n) f c = f := by cases n <;> rfl
@[go_sem] theorem one_o (k : K) (e n : Nat) : AV.one (outV k e n) = true := by cases n <;> rfl
@[go_sem] theorem agg_z {β : Type} (z : Bool) (k : K) (e n : Nat) (f : β) (c : List AV → β) : asAggC (zV z k e n) f c = f := by cases n <;> cases z <;> rfl
@[go_sem] theorem one_z (z : Bool) (k : K) (e n : Nat) : AV.one (zV z k e n) = true := by cases n <;> cases z <;> rfl
@[go_sem] theorem rho_key4 (top i0 i1 i2 i3 j : Nat) (σ : List Nat) : rho H top (i0 :: i1 :: i2 :: i3 :: j :: σ) (H.key 4) = H.key j := rho_key rfl
@[go_sem] theorem rho_key5 (top i0 i1 i2 i3 i4 j : Nat) (σ : List Nat) : rho H top (i0 :: i1 :: i2 :: i3 :: i4 :: j :: σ) (H.key 5) = H.key j := rho_key rfl
@[go_sem] theorem rho_key6 (top i0 i1 i2 i3 i4 i5 j : Nat) (σ : List Nat) : rho H top (i0 :: i1 :: i2 :: i3 :: i4 :: i5 :: j :: σ) (H.key 6) = H.key j := rho_key rfl
@[go_sem] theorem rho_key7 (top i0 i1 i2 i3 i4 i5 i6 j : Nat) (σ : List Nat) : rho H top (i0 :: i1 :: i2 :: i3 :: i4 :: i5 :: i6 :: j :: σ) (H.key 7) = H.key j := rho_key rfl
@[go_sem] theorem rho_key8 (top i0 i1 i2 i3 i4 i5 i6 i7 j : Nat) (σ : List Nat) : rho H top (i0 :: i1 :: i2 :: i3 :: i4 :: i5 :: i6 :: i7 :: j :: σ) (H.key 8) = H.key j := rho_key rfl
@[go_sem] theorem rho_key9 (top i0 i1 i2 i3 i4 i5 i6 i7 i8 j : Nat) (σ : List Nat) : rho H top (i0 :: i1 :: i2 :: i3 :: i4 :: i5 :: i6 :: i7 :: i8 :: j :: σ) (H.key 9) = H.key j := rho_key rfl
@[go_sem] theorem rho_key10 (top i0 i1 i2 i3 i4 i5 i6 i7 i8 i9 j : Nat) (σ : List Nat) : rho H top (i0 :: i1 :: i2 :: i3 :: i4 :: i5 :: i6 :: i7 :: i8 :: i9 :: j :: σ) (H.key 10) = H.key j := rho_key rfl
@[go_sem] theorem rho_key11 (top i0 i1 i2 i3 i4 i5 i6 i7 i8 i9 i10 j : Nat) (σ : List Nat) : rho H top (i0 :: i1 :: i2 :: i3 :: i4 :: i5 :: i6 :: i7 :: i8 :: i9 :: i10 :: j :: σ) (H.key 11) = H.key j := rho_key rfl
@[go_sem] theorem rho_key12 (top i0 i1 i2 i3 i4 i5 i6 i7 i8 i9 i10 i11 j : Nat) (σ : List Nat) : rho H top (i0 :: i1 :: i2 :: i3 :: i4 :: i5 :: i6 :: i7 :: i8 :: i9 :: i10 :: i11 :: j :: σ) (H.key 12) = H.key j := rho_key rfl
@[go_sem] theorem rho_key13 (top i0 i1 i2 i3 i4 i5 i6 i7 i8 i9 i10 i11 i12 j : Nat) (σ : List Nat) : rho H top (i0 :: i1 :: i2 :: i3 :: i4 :: i5 :: i6 :: i7 :: i8 :: i9 :: i10 :: i11 :: i12 :: j :: σ) (H.key 13) = H.key j := rho_key rfl
end Go.Proofs
/- history.Keep: walked. -/

set_option linter.all false
set_option linter.all false
set_option maxRecDepth 100000
namespace Go.Proofs
open Go Go.Ev
variable {H : Heap}

/-- a cell whose floor an event lifts -/
def flo (e : Evn) (c : Cell) : Cell := if c.key = e.key then { c with floor := max c.floor e.ver } else c
def keepC (l : List Evn) (cs : List Cell) : List Cell := l.foldl (fun cs e => cs.map (flo e)) cs
end Go.Proofs
/- cut: what its functions answer, as an oracle; Split: walked. -/

set_option linter.all false
set_option linter.all false
set_option maxRecDepth 100000
namespace Go.Proofs
open Go Go.Ev
variable {H : Heap}

section
variable {α : Type}
/-- the one that is so -/
noncomputable def theO (p : α → Prop) : Option α := open Classical in if h : ∃ x, p x then some (Classical.choose h) else none
theorem theO_eq {p : α → Prop} {x : α} (h : p x) (hu : ∀ y, p y → y = x) : theO p = some x := by
  unfold theO
  have hex : ∃ x, p x := ⟨x, h⟩
  rw [dif_pos hex]
  exact congrArg some (hu _ (Classical.choose_spec hex))
theorem theO_spec {p : α → Prop} {x : α} (h : theO p = some x) : p x := by
  unfold theO at h
  split at h
  · rename_i hex
    cases h
    exact Classical.choose_spec hex
  · cases h
noncomputable def ot (p : α → Prop) (c : α → RC) : RC := match theO p with | some x => c x | none => .fail
theorem ot_eq {p : α → Prop} {x : α} (h : p x) (hu : ∀ y, p y → y = x) (c : α → RC) : ot p c = c x := by
  unfold ot; rw [theO_eq h hu]
theorem ot_ok {p : α → Prop} {c : α → RC} {r : AV} {G : Heap} (h : ot p c = .ok r G) : ∃ x, p x ∧ c x = .ok r G := by
  unfold ot at h
  split at h
  · rename_i x hx
    exact ⟨x, theO_spec hx, h⟩
  · cases h
end
end Go.Proofs
/- cut: CutJoins, walked. -/

set_option linter.all false
set_option linter.all false
set_option maxRecDepth 100000
namespace Go.Proofs
open Go Go.Ev
variable {H : Heap}

def fewS (s : Sh) : Prop := s.cells.length ≤ 30 ∧ s.evs.length ≤ 40 ∧ s.done.length ≤ 6
instance (s : Sh) : Decidable (fewS s) := inferInstanceAs (Decidable (_ ∧ _))
end Go.Proofs
/- once: as the law has it, how a request stands, both joined: walked. -/

set_option linter.all false
set_option linter.all false
set_option maxRecDepth 100000
namespace Go.Proofs
open Go Go.Ev
variable {H : Heap}

def freshD (a : List Dn) (c : Dn) : Prop := ∀ x, findD a c.ses = some x → x.id < c.id
noncomputable instance (a : List Dn) (c : Dn) : Decidable (freshD a c) := Classical.propDecidable _
end Go.Proofs
/- the document's shards: small things: walked. -/


set_option linter.all false
set_option linter.all false
set_option maxRecDepth 100000
namespace Go.Proofs
open Go Go.Ev
variable {H : Heap}

/-- two shards that say the same -/
def sameSh (a b : Sh) : Prop := a.id = b.id ∧ a.ep = b.ep ∧ a.fr = b.fr ∧ a.to = b.to ∧ a.frz = b.frz ∧ a.cells = b.cells ∧ a.evs = b.evs ∧ a.done = b.done
end Go.Proofs
/- the document's Keep: the plain law, the walk. -/

set_option linter.all false
set_option linter.all false
set_option maxRecDepth 100000
namespace Go.Proofs
open Go Go.Ev
variable {H : Heap}

/-- what goes on while the events are let go: the cells stay an index, of the same keys and versions -/
structure Kept (cs0 cs : List Cell) : Prop where
  idx : isIdx cs
  src : ∀ c ∈ cs, ∃ c0 ∈ cs0, c.key = c0.key ∧ c.ver = c0.ver
  len : cs.length = cs0.length
  has : ∀ k, (getL cs0 k).2 = true → (getL cs k).2 = true
end Go.Proofs
/- Objects that a call changes: memories that aren't spelt out. -/


set_option linter.all false
set_option maxRecDepth 100000
namespace Go.Ev
variable {P : Program}
section
variable {N : Nat} {H0 H : Heap} {T : Tr AV} {Q : Ex → Tr AV → Heap → Prop}
theorem At2.sub {φ0 : Phi} {w0 u : World} {a : Act} {ts : List (K × AV)} (hts : ∀ p ∈ ts, T.get p.1 = some p.2) (h : At2 P φ0 H0 w0 N T H a u) : At2 P φ0 H0 w0 N (trOf ts) H a u := by
  obtain ⟨hd, ψ, ht, hw, he⟩ := h
  exact ⟨hd, ψ, ⟨ht.size, fun t v hv => ht.get t v (hts _ (get_trOf ts _ v hv))⟩, hw, he⟩
theorem Tri.sub {c : Code} {ts : List (K × AV)} (hts : ∀ p ∈ ts, T.get p.1 = some p.2) (h : Tri P N H0 c (trOf ts) H Q) : Tri P N H0 c T H Q :=
  fun φ0 w0 a u h0 ha => h φ0 w0 a u h0 (ha.sub hts)
theorem TriC.sub {c : CC} {ts : List (K × AV)} (hts : ∀ p ∈ ts, T.get p.1 = some p.2) (h : TriC P N H0 c (trOf ts) H Q) : TriC P N H0 c T H Q := fun code hc => (h code hc).sub hts
end
section
variable {E : FuncId → List AV → Heap → RC} {N : Nat} {H0 : Heap} {k : List It} {Q : Ex → Tr AV → Heap → Prop} {T : Tr AV} {G : Heap}
theorem WW.nil (h : WW P E N H0 k T (G.ext []) Q) : WW P E N H0 k T G Q := by rw [Heap.ext_nil] at h; exact h
/-- a round's end: another state, nearer the end; the memory is told of by what holds in it -/
def NextH {S : Type} (μ : S → Nat) (inv : S → Heap → Prop) (ts : S → List (K × AV)) (s : S) (T : Tr AV) (G : Heap) : Prop :=
  ∃ s', μ s' < μ s ∧ inv s' G ∧ ∀ p ∈ ts s', T.get p.1 = some p.2
theorem LL.sth {x : CC} (hE : Good P E) {S : Type} (μ : S → Nat) (inv : S → Heap → Prop) (ts : S → List (K × AV))
    (h : ∀ s G, inv s G → WW P E N H0 [.code x] (trOf (ts s)) (G.ext []) (behind (NextH μ inv ts s) (postW P E N H0 k Q))) (s0 : S) (hi : inv s0 G) (ht : ∀ p ∈ ts s0, T.get p.1 = some p.2) : LL P E N H0 x k T G Q := by
  refine TriC.loop (fun m T G => ∃ s, m = μ s ∧ inv s G ∧ ∀ p ∈ ts s, T.get p.1 = some p.2) ?_ (m := μ s0) ⟨s0, rfl, hi, ht⟩
  rintro m T G ⟨s, rfl, hs, hts⟩
  refine TriC.sub hts ?_
  refine (wpc_ok hE x _ _ _ (WW.nil (h s G hs))).mono ?_
  intro e T' G' q
  cases e with
  | norm => obtain ⟨s', h1, h2, h3⟩ := q; exact ⟨μ s', h1, s', rfl, h2, h3⟩
  | exit n => exact q
  | ret => exact q
end
/-- the slots that are told of -/
@[go_sem] def Slots (T : Tr AV) : List (K × AV) → Prop
  | [] => True
  | p :: ts => T.get p.1 = some p.2 ∧ Slots T ts
theorem Slots.all {T : Tr AV} : ∀ {ts : List (K × AV)}, Slots T ts → ∀ p ∈ ts, T.get p.1 = some p.2
  | [], _, p, h => by cases h
  | q :: ts, h, p, hp => by
    rcases List.mem_cons.1 hp with rfl | hp
    · exact h.1
    · exact Slots.all h.2 p hp
namespace Heap
attribute [go_sem] key_set nx_set'
@[go_sem] theorem get_key_of {B G : Heap} {l : List Blk} {i : Nat} (h : B.nx = G.nx) (hi : i < l.length) : (B.ext l).get (G.key i) = l[i]? := by
  have : G.key i = B.key i := by unfold key; rw [h]
  rw [this, get_ext_key _ _ _ hi]
@[go_sem] theorem setC_key_of {α : Type} {B G : Heap} {l : List Blk} {i : Nat} (h : B.nx = G.nx) (hi : i < l.length) (b : Blk) (c : Heap → α) : (B.ext l).setC (G.key i) b c = c (B.ext (l.set i b)) := by
  have : G.key i = B.key i := by unfold key; rw [h]
  rw [this, setC_ext _ _ _ _ _ hi]
@[go_sem] theorem get_key_set {G : Heap} {s : K} {b : Blk} {l : List Blk} {i : Nat} (hi : i < l.length) : ((G.set s b).ext l).get (G.key i) = l[i]? := get_key_of rfl hi
@[go_sem] theorem setC_key_set {α : Type} {G : Heap} {s : K} {b : Blk} {l : List Blk} {i : Nat} (hi : i < l.length) (d : Blk) (c : Heap → α) : ((G.set s b).ext l).setC (G.key i) d c = c ((G.set s b).ext (l.set i d)) := setC_key_of rfl hi d c
theorem ok_set {G : Heap} (h : G.ok) {k : K} {b c : Blk} (hk : G.get k = some c) : (G.set k b).ok := by
  intro j d hj
  rw [get_set] at hj
  split at hj
  · rename_i e; subst e; exact h k c hk
  · exact h j d hj
/-- a block that is set in a memory: what is got then -/
theorem get_set_here {G : Heap} (hok : G.ok) {k : K} {c : Blk} (hk : G.get k = some c) (b : Blk) (l : List Blk) : ((G.set k b).ext l).get k = some b := by
  rw [get_ext_lt (G.set k b) l k (show k.toNat < (G.set k b).nx.toNat from hok k c hk), get_set, if_pos rfl]
theorem get_set_there {G : Heap} (hok : G.ok) {k j : K} {d : Blk} (hj : G.get j = some d) (hne : k ≠ j) (b : Blk) (l : List Blk) : ((G.set k b).ext l).get j = some d := by
  rw [get_ext_lt (G.set k b) l j (show j.toNat < (G.set k b).nx.toNat from hok j d hj), get_set, if_neg hne, hj]
theorem setC_set_here {α : Type} {G : Heap} (hok : G.ok) {k : K} {x : Blk} (hk : G.get k = some x) (b d : Blk) (l : List Blk) (c : Heap → α) : ((G.set k b).ext l).setC k d c = c ((G.set k d).ext l) := by
  rw [setC_old (G.set k b) l k d c (show k.toNat < (G.set k b).nx.toNat from hok k x hk), set_set]
theorem setC_here {α : Type} {G : Heap} (hok : G.ok) {k : K} {x : Blk} (hk : G.get k = some x) (b : Blk) (l : List Blk) (c : Heap → α) : (G.ext l).setC k b c = c ((G.set k b).ext l) := setC_old _ l k b c (hok k x hk)
end Heap
end Go.Ev
/- a history goes on: the plain law. -/

set_option linter.all false
set_option linter.all false
set_option maxRecDepth 100000
namespace Go.Proofs
open Go Go.Ev
variable {H : Heap}

/-- the next cell of a key, and what happens -/
def nextC (cs : List Cell) (k v : List Nat) (d : Bool) : Cell := ⟨k, v, (getL cs k).1.ver + 1, d, (getL cs k).1.floor⟩
def nextE (cs : List Cell) (k v : List Nat) (d : Bool) : Evn := ⟨k, (getL cs k).1.ver + 1, v, d⟩
end Go.Proofs
/- the document's write of a put: walked. -/

set_option linter.all false
set_option linter.all false
set_option maxRecDepth 100000
namespace Go.Proofs
open Go Go.Ev
variable {H : Heap}

/-- a shard with a key put, as it is told -/
noncomputable def putS (s : Sh) (k v : List Nat) : Sh := ⟨s.id, s.ep, s.fr, s.to, s.frz, keepC ((s.evs ++ [nextE s.cells k v false]).take ((s.evs ++ [nextE s.cells k v false]).length - 24)) (withL s.cells (nextC s.cells k v false)), (s.evs ++ [nextE s.cells k v false]).drop ((s.evs ++ [nextE s.cells k v false]).length - 24), s.done, .nils, .nils, .nils⟩
end Go.Proofs
/- The laid-out code of the functions that are walked. -/

set_option linter.all false
set_option maxRecDepth 100000
namespace Go.Proofs
open Go Go.Ev K
end Go.Proofs
/- The laid-out code of the functions that are walked. -/

set_option linter.all false
set_option maxRecDepth 100000
namespace Go.Proofs
open Go Go.Ev K
end Go.Proofs
/- token: where a key is, walked. -/



set_option linter.all false
set_option maxRecDepth 100000
namespace Go.Proofs
open Go Go.Ev
variable {H : Heap}

/-- how far one has seen of a key -/
structure Sn where
  key : List Nat
  ver : Int
def hasAt (l : List Sn) (k : List Nat) (i : Nat) : Prop := ∃ c, l[i]? = some c ∧ c.key = k
noncomputable instance (l : List Sn) (k : List Nat) (i : Nat) : Decidable (hasAt l k i) := Classical.propDecidable _
end Go.Proofs
/- token: what has been seen, the plain law. -/

set_option linter.all false
set_option maxRecDepth 100000
namespace Go.Proofs
open Go Go.Ev
def okS (c : Sn) : Prop := isKey c.key ∧ 0 ≤ c.ver ∧ c.ver ≤ 1000000000000
def okTk (l : List Sn) (j : Nat) : Prop := ∃ c, l[j]? = some c ∧ okS c ∧ (0 < j → ∃ d, l[j - 1]? = some d ∧ ltS d.key c.key)
def isTok (l : List Sn) : Prop := ∀ j, j < l.length → okTk l j
noncomputable instance (l : List Sn) : Decidable (isTok l) := Classical.propDecidable _
abbrev up (l : List Sn) : Prop := l.Pairwise fun c d => ltS c.key d.key
/-- what is there of a key -/
noncomputable def getS : List Sn → List Nat → Option Sn
  | [], _ => none
  | c :: l, k => if c.key = k then some c else getS l k
end Go.Proofs
/- token: whether they are any, a key's version, the same, few: walked. -/



set_option linter.all false
set_option maxRecDepth 100000
namespace Go.Proofs
open Go Go.Ev
variable {H : Heap}

noncomputable def ofT (l : List Sn) (k : List Nat) : Int := match getS l k with | some c => c.ver | none => 0
noncomputable instance : DecidableEq Sn := fun _ _ => Classical.propDecidable _
def fewT (l : List Sn) : Prop := (∀ c ∈ l, (c.key.length : Int) ≤ 20) ∧ (l.length : Int) ≤ 30
instance (l : List Sn) : Decidable (fewT l) := inferInstanceAs (Decidable (_ ∧ _))
end Go.Proofs
/- where two spans meet, as the code has it: walked. -/


set_option linter.all false
set_option linter.all false
set_option maxRecDepth 100000
namespace Go.Proofs
open Go Go.Ev
variable {H : Heap}

noncomputable def maxS (a b : List Nat) : List Nat := if ltS a b then b else a
@[go_sem] theorem max_str {β : Type} (a b : List Nat) (f : β) (c : AV → β) : mm2 true (.str a) (.str b) f c = c (.str (maxS a b)) := by
  show bif' (bif' true (Bool.not (ltL a b)) (Bool.or (ltL a b) (eqL a b))) (c (.str a)) (c (.str b)) = _
  unfold maxS
  rw [bif_true, ltL_dec, bif_eq]
  by_cases h : ltS a b
  · rw [decide_eq_true h, if_pos h]; rfl
  · rw [decide_eq_false h, if_neg h]; rfl
noncomputable def minS (a b : List Nat) : List Nat := if ltS b a then b else a
@[go_sem] theorem min_str {β : Type} (a b : List Nat) (f : β) (c : AV → β) : mm2 false (.str a) (.str b) f c = c (.str (minS a b)) := by
  show bif' (bif' false (Bool.not (ltL a b)) (Bool.or (ltL a b) (eqL a b))) (c (.str a)) (c (.str b)) = _
  unfold minS
  rw [bif_false, ltL_dec, eqL_eq, bif_eq]
  rcases ltS_tri a b with h | h | h
  · rw [decide_eq_true h, if_neg (ltS_asymm h)]; rfl
  · subst h; rw [if_neg (ltS_irrefl a)]; simp
  · rw [decide_eq_false (ltS_asymm h), if_pos h, decide_eq_false (by rintro rfl; exact ltS_irrefl _ h)]; rfl
end Go.Proofs
/- what comes behind what was seen, as the code has it: walked. -/

set_option linter.all false
set_option linter.all false
set_option maxRecDepth 100000
namespace Go.Proofs
open Go Go.Ev
variable {H : Heap}

def tellE (f t : List Nat) (seen : List Sn) (e : Evn) : Prop := has f t e.key ∧ ofT seen e.key < e.ver
noncomputable instance (f t seen e) : Decidable (tellE f t seen e) := Classical.propDecidable _
end Go.Proofs
/- Feed of a span: walked. -/

set_option linter.all false
set_option maxRecDepth 100000
namespace Go.Proofs
open Go Go.Ev
variable {H : Heap}
@[go_sem] theorem min_int' {β : Type} (k : IntKind) (a b : Int) (f : β) (c : AV → β) : mm2 false (.int k a) (.int k b) f c = c (.int k (min a b)) := by
  show bif' false (ltI a b fun z => bif' z (c (.int k b)) (c (.int k a))) (ltI b a fun z => bif' z (c (.int k b)) (c (.int k a))) = _
  rw [bif_false, ltI_eq, bif_eq]
  by_cases h : b < a
  · rw [decide_eq_true h, if_pos rfl, Int.min_eq_right (by omega)]
  · rw [decide_eq_false h, if_neg (by decide), Int.min_eq_left (by omega)]
end Go.Proofs
/- The laid-out code of the functions that are walked. Printed by a program. -/

set_option linter.all false
set_option maxRecDepth 100000
namespace Go.Proofs
open Go Go.Ev K
noncomputable def C115 := mkC Tryz.prog Tryz.f115 128
theorem C115ok : CCok Tryz.prog Tryz.f115 128 C115 := mkC_ok _
@[go_sem] theorem call115 (a H) : callC Tryz.prog 115 a H = .call 115 a := callC_ok (by kernel_rfl) a H
theorem R115ok : resKs Tryz.prog Tryz.f115.results.toList = some [(RK.tmp z.i)] := by kernel_rfl

noncomputable def C110 := mkC Tryz.prog Tryz.f110 11
theorem C110ok : CCok Tryz.prog Tryz.f110 11 C110 := mkC_ok _
@[go_sem] theorem call110 (a H) : callC Tryz.prog 110 a H = .call 110 a := callC_ok (by kernel_rfl) a H
theorem R110ok : resKs Tryz.prog Tryz.f110.results.toList = some [(RK.tmp z.i)] := by kernel_rfl

noncomputable def C165 := mkC Tryz.prog Tryz.f165 18
theorem C165ok : CCok Tryz.prog Tryz.f165 18 C165 := mkC_ok _
@[go_sem] theorem call165 (a H) : callC Tryz.prog 165 a H = .call 165 a := callC_ok (by kernel_rfl) a H
theorem R165ok : resKs Tryz.prog Tryz.f165.results.toList = some [(RK.tmp z.i)] := by kernel_rfl

noncomputable def C166 := mkC Tryz.prog Tryz.f166 19
theorem C166ok : CCok Tryz.prog Tryz.f166 19 C166 := mkC_ok _
@[go_sem] theorem call166 (a H) : callC Tryz.prog 166 a H = .call 166 a := callC_ok (by kernel_rfl) a H
theorem R166ok : resKs Tryz.prog Tryz.f166.results.toList = some [(RK.tmp z.i)] := by kernel_rfl

noncomputable def C125 := mkC Tryz.prog Tryz.f125 42
theorem C125ok : CCok Tryz.prog Tryz.f125 42 C125 := mkC_ok _
@[go_sem] theorem call125 (a H) : callC Tryz.prog 125 a H = .call 125 a := callC_ok (by kernel_rfl) a H
theorem R125ok : resKs Tryz.prog Tryz.f125.results.toList = some [(RK.tmp z.i), (RK.tmp z.o.o), (RK.tmp z.o.i)] := by kernel_rfl

end Go.Proofs
/- The laid-out code of the functions that are walked. Printed by a program. -/

set_option linter.all false
set_option maxRecDepth 100000
namespace Go.Proofs
open Go Go.Ev K
@[go_sem] theorem call26 (a H) : callC Tryz.prog 26 a H = .call 26 a := callC_ok (by kernel_rfl) a H
noncomputable def C15 := mkC Tryz.prog Tryz.f15 13
theorem C15ok : CCok Tryz.prog Tryz.f15 13 C15 := mkC_ok _
@[go_sem] theorem call15 (a H) : callC Tryz.prog 15 a H = .call 15 a := callC_ok (by kernel_rfl) a H
theorem R15ok : resKs Tryz.prog Tryz.f15.results.toList = some [(RK.cell z.o.i true 8), (RK.tmp z.i.o)] := by kernel_rfl

noncomputable def C91 := mkC Tryz.prog Tryz.f91 23
theorem C91ok : CCok Tryz.prog Tryz.f91 23 C91 := mkC_ok _
@[go_sem] theorem call91 (a H) : callC Tryz.prog 91 a H = .call 91 a := callC_ok (by kernel_rfl) a H
theorem R91ok : resKs Tryz.prog Tryz.f91.results.toList = some [(RK.tmp z.o.i)] := by kernel_rfl

@[go_sem] theorem call104 (a H) : callC Tryz.prog 104 a H = .call 104 a := callC_ok (by kernel_rfl) a H
noncomputable def C41 := mkC Tryz.prog Tryz.f41 17
theorem C41ok : CCok Tryz.prog Tryz.f41 17 C41 := mkC_ok _
@[go_sem] theorem call41 (a H) : callC Tryz.prog 41 a H = .call 41 a := callC_ok (by kernel_rfl) a H
theorem R41ok : resKs Tryz.prog Tryz.f41.results.toList = some [(RK.cell z.o.i true 8), (RK.tmp z.i.o)] := by kernel_rfl

noncomputable def C42 := mkC Tryz.prog Tryz.f42 11
theorem C42ok : CCok Tryz.prog Tryz.f42 11 C42 := mkC_ok _
@[go_sem] theorem call42 (a H) : callC Tryz.prog 42 a H = .call 42 a := callC_ok (by kernel_rfl) a H
theorem R42ok : resKs Tryz.prog Tryz.f42.results.toList = some [(RK.tmp z.o.i)] := by kernel_rfl

noncomputable def C43 := mkC Tryz.prog Tryz.f43 8
theorem C43ok : CCok Tryz.prog Tryz.f43 8 C43 := mkC_ok _
@[go_sem] theorem call43 (a H) : callC Tryz.prog 43 a H = .call 43 a := callC_ok (by kernel_rfl) a H
theorem R43ok : resKs Tryz.prog Tryz.f43.results.toList = some [(RK.tmp z.o.o)] := by kernel_rfl

noncomputable def C50 := mkC Tryz.prog Tryz.f50 38
theorem C50ok : CCok Tryz.prog Tryz.f50 38 C50 := mkC_ok _
@[go_sem] theorem call50 (a H) : callC Tryz.prog 50 a H = .call 50 a := callC_ok (by kernel_rfl) a H
theorem R50ok : resKs Tryz.prog Tryz.f50.results.toList = some [(RK.cell z.i true 8)] := by kernel_rfl

end Go.Proofs
/- The laid-out code of the functions that are walked. Printed by a program. -/

set_option linter.all false
set_option maxRecDepth 100000
namespace Go.Proofs
open Go Go.Ev K
noncomputable def C94 := mkC Tryz.prog Tryz.f94 19
theorem C94ok : CCok Tryz.prog Tryz.f94 19 C94 := mkC_ok _
@[go_sem] theorem call94 (a H) : callC Tryz.prog 94 a H = .call 94 a := callC_ok (by kernel_rfl) a H
theorem R94ok : resKs Tryz.prog Tryz.f94.results.toList = some [(RK.tmp z.o.i)] := by kernel_rfl

noncomputable def C145 := mkC Tryz.prog Tryz.f145 56
theorem C145ok : CCok Tryz.prog Tryz.f145 56 C145 := mkC_ok _
@[go_sem] theorem call145 (a H) : callC Tryz.prog 145 a H = .call 145 a := callC_ok (by kernel_rfl) a H
theorem R145ok : resKs Tryz.prog Tryz.f145.results.toList = some [(RK.tmp z.i), (RK.tmp z.o.o), (RK.tmp z.o.i)] := by kernel_rfl

noncomputable def C148 := mkC Tryz.prog Tryz.f148 45
theorem C148ok : CCok Tryz.prog Tryz.f148 45 C148 := mkC_ok _
@[go_sem] theorem call148 (a H) : callC Tryz.prog 148 a H = .call 148 a := callC_ok (by kernel_rfl) a H
theorem R148ok : resKs Tryz.prog Tryz.f148.results.toList = some [(RK.tmp z.o.i), (RK.tmp z.i.o), (RK.tmp z.i.i)] := by kernel_rfl

noncomputable def C168 := mkC Tryz.prog Tryz.f168 4
theorem C168ok : CCok Tryz.prog Tryz.f168 4 C168 := mkC_ok _
@[go_sem] theorem call168 (a H) : callC Tryz.prog 168 a H = .call 168 a := callC_ok (by kernel_rfl) a H
theorem R168ok : resKs Tryz.prog Tryz.f168.results.toList = some [(RK.tmp z.i)] := by kernel_rfl

@[go_sem] theorem call196 (a H) : callC Tryz.prog 196 a H = .call 196 a := callC_ok (by kernel_rfl) a H
@[go_sem] theorem call172 (a H) : callC Tryz.prog 172 a H = .call 172 a := callC_ok (by kernel_rfl) a H
end Go.Proofs
/- a number taken of bytes: walked. -/




set_option linter.all false
set_option linter.all false
set_option maxRecDepth 100000
namespace Go.Proofs
open Go Go.Ev
variable {H : Heap}

theorem and63u {b : Nat} (h : b < 256) : IntKind.u8.wrap ((BitVec.ofInt IntKind.u8.bits (b : Int) &&& BitVec.ofInt IntKind.u8.bits 63).toNat : Int) = ((b % 64 : Nat) : Int) := by
  have h1 : (BitVec.ofInt IntKind.u8.bits (b : Int) &&& BitVec.ofInt IntKind.u8.bits 63).toNat = b % 64 := by
    rw [BitVec.toNat_and, BitVec.toNat_ofInt, BitVec.toNat_ofInt]
    show ((b : Int) % ((2 ^ 8 : Nat) : Int)).toNat &&& ((63 : Int) % ((2 ^ 8 : Nat) : Int)).toNat = _
    rw [show ((b : Int) % ((2 ^ 8 : Nat) : Int)).toNat = b by omega, show ((63 : Int) % ((2 ^ 8 : Nat) : Int)).toNat = 2 ^ 6 - 1 by decide, Nat.and_two_pow_sub_one_eq_mod]
  rw [h1]
  exact wrap_u8 (by omega)
theorem bin_and63u {β : Type} (ek : EK) (pk : Option (List LK)) (lit : Bool) {b : Nat} (h : b < 256) (f : β) (c : AV → β) : binV Tryz.prog ek pk lit .and (.int .u8 (b : Int)) (.int .u8 63) f c = c (.int .u8 ((b % 64 : Nat) : Int)) := by rw [bin_and, and63u h]
theorem pow64_le {i : Nat} (hi : i < 8) : 64 ^ i ≤ 4398046511104 := by
  have : 64 ^ i ≤ 64 ^ 7 := Nat.pow_le_pow_right (by decide) (by omega)
  simpa using this
theorem mul_lt64 {r p : Nat} (hr : r < 64) (hp : p ≤ 4398046511104) : r * p < 281474976710656 := by
  have h1 : r * p ≤ 63 * p := Nat.mul_le_mul_right p (by omega)
  omega
theorem pow64 (i : Nat) : 64 ^ i = 2 ^ (6 * i) := by rw [Nat.pow_mul]
theorem bin_shl64 {β : Type} (ek : EK) (pk : Option (List LK)) (lit : Bool) {r i : Nat} (hr : r < 64) (hi : i < 8) (f : β) (c : AV → β) : binV Tryz.prog ek pk lit .shl (.int .i64 (r : Int)) (.int .i64 ((6 * i : Nat) : Int)) f c = c (.int .i64 ((r * 64 ^ i : Nat) : Int)) := by
  have hb : min (6 * i) IntKind.i64.bits = 6 * i := Nat.min_eq_left (by show 6 * i ≤ 64; omega)
  have h2 : (r : Int) * 2 ^ (6 * i) = ((r * 64 ^ i : Nat) : Int) := by rw [pow64]; push_cast; rfl
  have h3 := mul_lt64 hr (pow64_le hi)
  rw [bin_shl, hb, h2, wrap_i64 (by omega) (by omega)]
theorem bin_or64n {β : Type} (ek : EK) (pk : Option (List LK)) (lit : Bool) {a r i : Nat} (ha : a < 64 ^ i) (hr : r < 64) (hi : i < 8) (f : β) (c : AV → β) : binV Tryz.prog ek pk lit .or (.int .i64 (a : Int)) (.int .i64 ((r * 64 ^ i : Nat) : Int)) f c = c (.int .i64 ((a + r * 64 ^ i : Nat) : Int)) := by
  have h3 := mul_lt64 hr (pow64_le hi)
  have h4 := pow64_le hi
  have h1 : (BitVec.ofInt IntKind.i64.bits (a : Int) ||| BitVec.ofInt IntKind.i64.bits ((r * 64 ^ i : Nat) : Int)).toNat = a + r * 64 ^ i := by
    rw [BitVec.toNat_or, BitVec.toNat_ofInt, BitVec.toNat_ofInt]
    show ((a : Int) % ((2 ^ 64 : Nat) : Int)).toNat ||| (((r * 64 ^ i : Nat) : Int) % ((2 ^ 64 : Nat) : Int)).toNat = _
    generalize hq : r * 64 ^ i = q at h3
    rw [show ((a : Int) % ((2 ^ 64 : Nat) : Int)).toNat = a by omega, show ((q : Int) % ((2 ^ 64 : Nat) : Int)).toNat = q by omega, ← hq, Nat.or_comm, Nat.mul_comm, pow64, ← Nat.two_pow_add_eq_or_of_lt (by rw [← pow64]; exact ha), Nat.add_comm]
  generalize hq : r * 64 ^ i = q at h1 h3
  rw [bin_or, h1, wrap_i64 (by omega) (by omega)]
/-- its first byte -/
def hdN (m : Nat) : Nat := if m < 64 then m else 64 + m % 64
theorem numT_cons (m : Nat) : ∃ t, numT m = hdN m :: t := by
  unfold hdN
  by_cases h : m < 64
  · exact ⟨[], by rw [numT_lo h, if_pos h]⟩
  · exact ⟨numT (m / 64), by rw [numT_hi h, if_neg h]⟩
theorem f145_num {n : Nat} (hn : n < 281474976710656) {l : List Nat} (hl : l.length < 1000000) : FnOk Tryz.prog 145 [.str (numT n ++ l)] H fun r G => r = .tup [.int .i64 n, .str l, .nili] ∧ G = H := by
  refine FnOk.drop (R := fun r => r = .tup [.int .i64 n, .str l, .nili]) ?_ (by rintro v rfl ρ; simp only [AV.ren, AV.rens])
  refine FnOk.of_WW Tryz.func145 rfl C145ok R145ok E0 good_E0 ?_
  obtain ⟨s, hs⟩ : ∃ s, s = numT n ++ l := ⟨_, rfl⟩
  rw [← hs]
  simp only [go_sem, C145]
  refine LL.st good_E0 (fun i : Nat => 8 - i) (fun i => i < 8 ∧ s.drop i = numT (n / 64 ^ i) ++ l ∧ (i = 0 ∨ 0 < n / 64 ^ i)) (fun i => [(.z, .str s), ((.o (.i .z)), .int .i64 (n % 64 ^ i : Nat)), ((.o (.o (.o .z))), .int .i64 i)]) (fun _ => []) ?_ 0 (σ := [])
    (Wk.of rfl (by decide) (by simp only [go_sem, Nat.pow_zero, Nat.mod_one]; first | done | rfl | trace_state) (by simp only [go_sem])) ⟨by decide, by rw [List.drop_zero, Nat.pow_zero, Nat.div_one, hs], .inl rfl⟩
  rintro i ⟨hi, hd, hz⟩
  obtain ⟨m, hm⟩ : ∃ m, m = n / 64 ^ i := ⟨_, rfl⟩
  rw [← hm] at hd hz
  obtain ⟨t, ht⟩ := numT_cons m
  have hb : hdN m ≤ 127 := by unfold hdN; split <;> omega
  have hget : s[i]? = some (hdN m) := by
    have := congrArg (·[0]?) hd
    rw [ht] at this
    simpa using this
  obtain ⟨hlt, -⟩ := List.getElem?_eq_some_iff.1 hget
  have hdr : s.drop (i + 1) = t ++ l := by
    have := congrArg (List.drop 1) hd
    rw [ht, List.drop_drop] at this
    simpa [Nat.add_comm] using this
  have c1 : ¬ (s.length : Int) ≤ (i : Int) := by omega
  have c0 : (i : Int) < 8 := by omega
  have c2 : ¬ (127 : Int) < (hdN m : Int) := by omega
  have hw6 : IntKind.i64.wrap (6 * (i : Int)) = ((6 * i : Nat) : Int) := by rw [wrap_i64 (by omega) (by omega)]; push_cast; rfl
  have hwi : IntKind.i64.wrap ((i : Int) + 1) = ((i + 1 : Nat) : Int) := wrap_succ (by omega)
  have hle : i + 1 ≤ s.length := hlt
  have hdc : ∀ {β : Type} (f : β) (c : List Nat → β), dropC f (i + 1) s c = c (t ++ l) := fun f c => by rw [dropC_eq, if_pos hle, hdr]
  have hr : hdN m % 64 < 64 := Nat.mod_lt _ (by decide)
  have ha : n % 64 ^ i < 64 ^ i := Nat.mod_lt _ (Nat.pow_pos (by decide))
  have A := fun f c => bin_and63u (β := R1) .no none true (b := hdN m) (by omega) f c
  have S := fun f c => bin_shl64 (β := R1) .no none false hr hi f c
  have O := fun f c => bin_or64n (β := R1) .no none false ha hr hi f c
  have hwc : IntKind.i64.wrap ((hdN m % 64 : Nat) : Int) = ((hdN m % 64 : Nat) : Int) := wrap_i64 (by omega) (by omega)
  have h0i : (0 : Int) ≤ ((i + 1 : Nat) : Int) := by omega
  have hmod : hdN m % 64 = m % 64 := by unfold hdN; split <;> omega
  simp only [go_sem, c0, c1, hget, c2, ↓A, ↓S, ↓O, hw6, hwc, hwi, hdc, h0i, Int.toNat_natCast]
  have hret : ((hdN m : Nat) : Int) < 64 → AV.tup [AV.int .i64 ((n % 64 ^ i + hdN m % 64 * 64 ^ i : Nat) : Int), .str (t ++ l), .nili] = .tup [.int .i64 n, .str l, .nili] := fun h => by
    have hm64 : m < 64 := by
      refine Nat.lt_of_not_le fun h6 => ?_
      unfold hdN at h
      rw [if_neg (by omega)] at h
      omega
    have ht0 : t = [] := by
      rw [numT_lo hm64] at ht
      exact (List.cons.inj ht).2.symm
    have e : n % 64 ^ i + hdN m % 64 * 64 ^ i = n := by
      rw [hmod, Nat.mod_eq_of_lt hm64, hm, Nat.mul_comm, Nat.mod_add_div]
    rw [e, ht0]
    rfl
  have hnx : ¬ ((hdN m : Nat) : Int) < 64 → (i + 1 < 8 ∧ s.drop (i + 1) = numT (n / 64 ^ (i + 1)) ++ l ∧ (i + 1 = 0 ∨ 0 < n / 64 ^ (i + 1))) ∧ n % 64 ^ (i + 1) = n % 64 ^ i + hdN m % 64 * 64 ^ i := fun h => by
    have hm64 : ¬ m < 64 := fun h6 => by
      unfold hdN at h
      rw [if_pos h6] at h
      omega
    have hq : n / 64 ^ (i + 1) = m / 64 := by rw [Nat.pow_succ, ← Nat.div_div_eq_div_mul, hm]
    have ht1 : t = numT (m / 64) := by
      rw [numT_hi hm64] at ht
      exact (List.cons.inj ht).2.symm
    have hpos : 0 < m / 64 := by omega
    refine ⟨⟨?_, by rw [hdr, ht1, hq], .inr (by rw [hq]; exact hpos)⟩, by rw [Nat.mod_pow_succ, hmod, hm, Nat.mul_comm]⟩
    refine Nat.lt_of_not_le fun h8 => ?_
    have h7 : 64 ^ 8 ≤ 64 ^ (i + 1) := Nat.pow_le_pow_right (by decide) h8
    have h9 : n < 64 ^ (i + 1) := Nat.lt_of_lt_of_le hn h7
    rw [← hq, Nat.div_eq_of_lt h9] at hpos
    exact absurd hpos (Nat.lt_irrefl _)
  refine ⟨fun h0 => ⟨fun hi0 => ?_, fun _ => ⟨fun hs64 => ⟨hret hs64, _, rfl⟩, fun hs64 => ?_⟩⟩, fun h0 => ⟨fun hs64 => ⟨hret hs64, _, rfl⟩, fun hs64 => ?_⟩⟩
  · rcases hz with rfl | hz
    · exact absurd hi0 (by decide)
    · refine absurd h0 ?_
      unfold hdN
      split <;> omega
  all_goals
    obtain ⟨hg, hnm⟩ := hnx hs64
    exact ⟨i + 1, by show 8 - (i + 1) < 8 - i; omega, hg, _, [], rfl, Wk.of rfl (by decide) (by simp only [go_sem, hnm]; first | done | rfl | trace_state) (by simp only [go_sem])⟩
end Go.Proofs
/- sums of bytes, what is wrapped: walked. -/

set_option linter.all false
set_option linter.all false
set_option maxRecDepth 100000
namespace Go.Proofs
open Go Go.Ev
variable {H : Heap}

def xorU (x y : Int) : Int := IntKind.u32.wrap ((BitVec.ofInt IntKind.u32.bits x ^^^ BitVec.ofInt IntKind.u32.bits y).toNat : Int)
theorem bin_xorU {β : Type} (ek : EK) (pk : Option (List LK)) (lit : Bool) (x y : Int) (f : β) (c : AV → β) : binV Tryz.prog ek pk lit .xor (.int .u32 x) (.int .u32 y) f c = c (.int .u32 (xorU x y)) := by rw [bin_xor]; rfl
def stepU (x : Int) (b : Nat) : Int := IntKind.u32.wrap (xorU x (IntKind.u32.wrap (b : Int)) * 16777619)
/-- a sum of bytes -/
def sumT (s : List Nat) : Int := s.foldl stepU 2166136261
theorem sumT_next {s : List Nat} {i b : Nat} (h : s[i]? = some b) : sumT (s.take (i + 1)) = IntKind.u32.wrap (xorU (sumT (s.take i)) (IntKind.u32.wrap (b : Int)) * 16777619) := by
  unfold sumT
  rw [List.take_add_one, h, List.foldl_append]
  rfl
theorem f166_ok {s : List Nat} (hl : s.length < 4611686018427387904) : FnOk Tryz.prog 166 [.str s] H fun r G => r = .int .u32 (sumT s) ∧ G = H := by
  refine FnOk.drop (R := fun r => r = .int .u32 (sumT s)) ?_ (by rintro v rfl ρ; rw [AV.ren])
  refine FnOk.of_WW Tryz.func166 rfl C166ok R166ok E0 good_E0 ?_
  simp only [go_sem, C166]
  refine LL.st good_E0 (fun i : Nat => s.length - i) (fun i => i ≤ s.length) (fun i => [(.z, .str s), ((.o (.o .z)), .int .u32 (sumT (s.take i))), ((.i (.i .z)), .int .i64 s.length), ((.o (.o (.o .z))), .int .i64 i)]) (fun _ => []) ?_ 0 (σ := []) (Wk.of rfl (by decide) (by simp only [go_sem]; first | done | rfl | trace_state) (by simp only [go_sem]; first | done | rfl | trace_state)) (Nat.zero_le _)
  rintro i hi
  by_cases hlt : i < s.length
  · have hget : s[i]? = some s[i] := List.getElem?_eq_getElem hlt
    generalize s[i] = b at hget
    have hci : (i : Int) < (s.length : Int) := by omega
    have hw := wrap_succ (n := i) (by omega)
    have hnew := sumT_next hget
    have X := fun x y f c => bin_xorU (β := R1) .no none false x y f c
    simp only [go_sem, hci, hget, ↓X, hw]
    exact ⟨i + 1, by show s.length - (i + 1) < s.length - i; omega, (show i + 1 ≤ s.length by omega), _, [], rfl, Wk.of rfl (by decide) (by simp only [go_sem, hnew, hw]; first | done | rfl | trace_state) (by simp only [go_sem])⟩
  · have hci : ¬ (i : Int) < (s.length : Int) := by omega
    simp only [go_sem, hci]
    rw [List.take_of_length_le (by omega)]
    exact ⟨rfl, _, rfl⟩
/-- a sum's bytes, the lowest first -/
def byU (x : Int) : Nat := (IntKind.u8.wrap x).toNat
theorem byU_eq (x : Int) : IntKind.u8.wrap x = (byU x : Int) := by
  unfold byU
  have : 0 ≤ IntKind.u8.wrap x := by show 0 ≤ x % _; exact Int.emod_nonneg _ (by decide)
  omega
theorem byU_le (x : Int) : byU x ≤ 255 := by
  have h := byU_eq x
  have : IntKind.u8.wrap x < 256 := by show x % (2 ^ 8 : Int) < 256; exact Int.emod_lt_of_pos x (by decide)
  omega
def byT (x : Int) : List Nat := [byU x, byU (x.fdiv 256), byU (x.fdiv 65536), byU (x.fdiv 16777216)]
theorem shr0 {β : Type} (ek : EK) (pk : Option (List LK)) (lit : Bool) (a : Int) (k : IntKind) (f : β) (c : AV → β) : binV Tryz.prog ek pk lit .shr (.int .u32 a) (.int k 0) f c = c (.int .u32 a) := by
  have h := bin_shr (P := Tryz.prog) ek pk lit .u32 a f c k 0
  have e : a.fdiv (2 ^ min 0 IntKind.u32.bits) = a := Int.fdiv_one a
  rw [e] at h
  exact h
theorem shr8 {β : Type} (ek : EK) (pk : Option (List LK)) (lit : Bool) (a : Int) (k : IntKind) (f : β) (c : AV → β) : binV Tryz.prog ek pk lit .shr (.int .u32 a) (.int k 8) f c = c (.int .u32 (a.fdiv 256)) := bin_shr (P := Tryz.prog) ek pk lit .u32 a f c k 8
theorem shr16 {β : Type} (ek : EK) (pk : Option (List LK)) (lit : Bool) (a : Int) (k : IntKind) (f : β) (c : AV → β) : binV Tryz.prog ek pk lit .shr (.int .u32 a) (.int k 16) f c = c (.int .u32 (a.fdiv 65536)) := bin_shr (P := Tryz.prog) ek pk lit .u32 a f c k 16
theorem shr24 {β : Type} (ek : EK) (pk : Option (List LK)) (lit : Bool) (a : Int) (k : IntKind) (f : β) (c : AV → β) : binV Tryz.prog ek pk lit .shr (.int .u32 a) (.int k 24) f c = c (.int .u32 (a.fdiv 16777216)) := bin_shr (P := Tryz.prog) ek pk lit .u32 a f c k 24
theorem readC_four {β : Type} (f : β) (a b c d : AV) (k : List AV → β) : readC f 1 [[a], [b], [c], [d]] 0 4 k = k [a, b, c, d] := rfl
theorem byT_all {β : Type} (x : Int) (f : β) (c : List Nat → β) : bytesC [.int .u8 (byU x), .int .u8 (byU (x.fdiv 256)), .int .u8 (byU (x.fdiv 65536)), .int .u8 (byU (x.fdiv 16777216))] f c = c (byT x) := by
  refine bytesC_all (l := byT x) (fun b hb => ?_) f c
  simp only [byT, List.mem_cons, List.not_mem_nil, or_false] at hb
  rcases hb with rfl | rfl | rfl | rfl <;> exact byU_le _
theorem f165_ok (x : Int) : FnOk Tryz.prog 165 [.int .u32 x] H fun r G => r = .str (byT x) ∧ G = H := by
  refine FnOk.drop (R := fun r => r = .str (byT x)) ?_ (by rintro v rfl ρ; rw [AV.ren])
  refine FnOk.of_WW Tryz.func165 rfl C165ok R165ok E0 good_E0 ?_
  simp only [go_sem, C165]
  refine LL.st good_E0 (S := Int × List Nat) (fun s => (4 - s.1).toNat) (fun s => s = (0, [0, 0, 0, 0]) ∨ s = (1, [byU x, 0, 0, 0]) ∨ s = (2, [byU x, byU (x.fdiv 256), 0, 0]) ∨ s = (3, [byU x, byU (x.fdiv 256), byU (x.fdiv 65536), 0]) ∨ s = (4, byT x))
    (fun s => [(.z, .int .u32 x), ((.o (.o .z)), .ptr (H.key 0) 0), ((.o (.i .z)), .int .i64 s.1)]) (fun s => [.row true 1 (s.2.map byteC)]) ?_ (0, [0, 0, 0, 0]) (σ := [0]) (Wk.of rfl (by decide) (by simp only [go_sem]; first | done | rfl | trace_state) (by simp only [go_sem, byteC, byteV, byT]; first | done | rfl | trace_state)) (.inl rfl)
  have w0 : IntKind.i64.wrap (8 * 0) = 0 := rfl
  have w1 : IntKind.i64.wrap (8 * 1) = 8 := rfl
  have w2 : IntKind.i64.wrap (8 * 2) = 16 := rfl
  have w3 : IntKind.i64.wrap (8 * 3) = 24 := rfl
  have b0 := byU_eq x
  have b1 := byU_eq (x.fdiv 256)
  have b2 := byU_eq (x.fdiv 65536)
  have b3 := byU_eq (x.fdiv 16777216)
  have s0 := fun l f c => shr0 (β := R1) .no none l x .i64 f c
  have s1 := fun l f c => shr8 (β := R1) .no none l x .i64 f c
  have s2 := fun l f c => shr16 (β := R1) .no none l x .i64 f c
  have s3 := fun l f c => shr24 (β := R1) .no none l x .i64 f c
  have rd := fun a b c d k => readC_four (β := R1) .fail a b c d k
  have al := fun c => byT_all (β := R1) x .fail c
  rintro _ (rfl | rfl | rfl | rfl | rfl)
  · simp only [go_sem, byteC, byteV, w0, ↓s0, b0]
    exact ⟨(1, [byU x, 0, 0, 0]), by show (4 - 1 : Int).toNat < (4 - 0 : Int).toNat; decide, .inr (.inl rfl), _, [0], rfl, Wk.of rfl (by decide) (by simp only [go_sem]; first | done | rfl | trace_state) (by simp only [go_sem, byteC, byteV, byT]; first | done | rfl | trace_state)⟩
  · simp only [go_sem, byteC, byteV, w1, ↓s1, b1]
    exact ⟨(2, [byU x, byU (x.fdiv 256), 0, 0]), by show (4 - 2 : Int).toNat < (4 - 1 : Int).toNat; decide, .inr (.inr (.inl rfl)), _, [0], rfl, Wk.of rfl (by decide) (by simp only [go_sem]; first | done | rfl | trace_state) (by simp only [go_sem, byteC, byteV, byT]; first | done | rfl | trace_state)⟩
  · simp only [go_sem, byteC, byteV, w2, ↓s2, b2]
    exact ⟨(3, [byU x, byU (x.fdiv 256), byU (x.fdiv 65536), 0]), by show (4 - 3 : Int).toNat < (4 - 2 : Int).toNat; decide, .inr (.inr (.inr (.inl rfl))), _, [0], rfl, Wk.of rfl (by decide) (by simp only [go_sem]; first | done | rfl | trace_state) (by simp only [go_sem, byteC, byteV, byT]; first | done | rfl | trace_state)⟩
  · simp only [go_sem, byteC, byteV, w3, ↓s3, b3]
    exact ⟨(4, byT x), by show (4 - 4 : Int).toNat < (4 - 3 : Int).toNat; decide, .inr (.inr (.inr (.inr rfl))), _, [0], rfl, Wk.of rfl (by decide) (by simp only [go_sem]; first | done | rfl | trace_state) (by simp only [go_sem, byteC, byteV, byT]; first | done | rfl | trace_state)⟩
  · simp only [go_sem, byteC, byteV, byT, rd, al]
    exact ⟨Nat.le_refl 4, _, rfl⟩
def wrapT (s : List Nat) : List Nat := byT (sumT (textT s)) ++ textT s
theorem textT_le {s : List Nat} (h : s.length < 1000000) : (textT s).length < 1000100 := by
  have := numT_small (n := s.length) (by omega)
  show (numT s.length ++ s).length < _
  rw [List.length_append]
  omega
theorem f110_ok {s : List Nat} (hs : s.length < 1000000) : FnOk Tryz.prog 110 [.str s] H fun r G => r = .str (wrapT s) ∧ G = H := by
  refine FnOk.drop (R := fun r => r = .str (wrapT s)) ?_ (by rintro v rfl ρ; rw [AV.ren])
  refine FnOk.of_WW Tryz.func110 rfl C110ok R110ok E0 good_E0 ?_
  have hl := textT_le hs
  have h4 : ∀ x, (byT x).length = 4 := fun x => rfl
  have hle : 4 + (textT s).length ≤ 9223372036854775807 := by omega
  simp only [go_sem, C110]
  refine CL.of (f114_ok (s := s) (by omega)) ?_
  rintro _ G' ⟨rfl, hG⟩; rw [hG]; clear hG
  simp only [go_sem]
  refine CL.of (f166_ok (s := textT s) (by omega)) ?_
  rintro _ G' ⟨rfl, hG⟩; rw [hG]; clear hG
  simp only [go_sem]
  refine CL.of (f165_ok _) ?_
  rintro _ G' ⟨rfl, hG⟩; rw [hG]; clear hG
  simp only [go_sem, h4, hle]
  exact ⟨rfl, _, rfl⟩
theorem f168_ok (b : Bool) : FnOk Tryz.prog 168 [.bool b] H fun r G => r = .str [b.toNat] ∧ G = H := by
  refine FnOk.drop (R := fun r => r = .str [b.toNat]) ?_ (by rintro v rfl ρ; rw [AV.ren])
  refine FnOk.of_WW Tryz.func168 rfl C168ok R168ok E0 good_E0 ?_
  cases b
  · simp only [go_sem, C168]
    exact ⟨rfl, _, rfl⟩
  · simp only [go_sem, C168]
    exact ⟨rfl, _, rfl⟩
end Go.Proofs
/- texts and flags taken of bytes, what is wrapped opened: walked. -/


set_option linter.all false
set_option linter.all false
set_option maxRecDepth 100000
namespace Go.Proofs
open Go Go.Ev
variable {H : Heap}

theorem textT_app (s l : List Nat) : textT s ++ l = numT s.length ++ (s ++ l) := by unfold textT; rw [List.append_assoc]
theorem drop_app {β : Type} (f : β) (s l : List Nat) (c : List Nat → β) : dropC f s.length (s ++ l) c = c l := by
  rw [dropC_eq, if_pos (by rw [List.length_append]; exact Nat.le_add_right _ _), List.drop_left]
theorem take_app {β : Type} (f : β) (s l : List Nat) (c : List Nat → β) : takeC f s.length (s ++ l) c = c s := by
  rw [takeC_eq, if_pos (by rw [List.length_append]; exact Nat.le_add_right _ _), List.take_left]
theorem f148_txt {s l : List Nat} {most : Int} (hm : (s.length : Int) ≤ most) (hl : s.length + l.length < 1000000) : FnOk Tryz.prog 148 [.str (textT s ++ l), .int .i64 most] H fun r G => r = .tup [.str s, .str l, .nili] ∧ G = H := by
  refine FnOk.drop (R := fun r => r = .tup [.str s, .str l, .nili]) ?_ (by rintro v rfl ρ; simp only [AV.ren, AV.rens])
  rw [textT_app]
  refine FnOk.of_WW Tryz.func148 rfl C148ok R148ok E0 good_E0 ?_
  have hla : (s ++ l).length = s.length + l.length := List.length_append
  simp only [go_sem, C148]
  refine CL.of (f145_num (n := s.length) (by omega) (l := s ++ l) (by omega)) ?_
  rintro _ G' ⟨rfl, hG⟩; rw [hG]; clear hG
  simp only [go_sem]
  refine CL.of (f64_ok none 11) ?_
  rintro _ G' ⟨rfl, hG⟩; rw [hG]; clear hG
  have h1 : ¬ most < (s.length : Int) := by omega
  have h2 : ¬ ((s.length + l.length : Nat) : Int) < (s.length : Int) := by omega
  have h3 : s.length ≤ s.length + l.length := Nat.le_add_right _ _
  have h4 : (0 : Int) ≤ (s.length : Int) := by omega
  have d := fun f c => drop_app (β := R1) f s l c
  have t := fun f c => take_app (β := R1) f s l c
  have d0 : ∀ {β : Type} (f : β) (c : List Nat → β), dropC f 0 (s ++ l) c = c (s ++ l) := fun f c => by rw [dropC_eq, if_pos (Nat.zero_le _), List.drop_zero]
  have t0 : List.take s.length (s ++ l) = s := List.take_left
  have z0 : 0 ≤ s.length := Nat.zero_le _
  simp only [go_sem, h1, h2, h3, h4, hla, d, t, Int.toNat_natCast, d0, t0, z0, Nat.sub_zero]
  exact ⟨_, rfl⟩
/-- sums and their bytes -/
noncomputable def EFr (f : FuncId) (args : List AV) (H : Heap) : RC :=
  match f with
  | 166 => match args with | [.str s] => if s.length < 4611686018427387904 then .ok (.int .u32 (sumT s)) H else .fail | _ => .fail
  | 165 => match args with | [.int .u32 x] => .ok (.str (byT x)) H | _ => .fail
  | _ => .fail
theorem good_EFr : Ev.Good Tryz.prog EFr := by
  intro f args H r G he φ w args' ha hw
  refine (?_ : FnOk Tryz.prog f args H fun v' G' => v' = r ∧ G' = G).one φ w args' ha hw
  unfold EFr at he
  split at he
  · split at he
    · split at he
      · rename_i hc
        cases he; exact f166_ok hc
      · cases he
    · cases he
  · split at he
    · cases he; exact f165_ok _
    · cases he
  · cases he
theorem ef120 {s : List Nat} (h : s.length < 4611686018427387904) (H : Heap) : EFr 166 [.str s] H = .ok (.int .u32 (sumT s)) H := if_pos h
theorem ef119 (x : Int) (H : Heap) : EFr 165 [.int .u32 x] H = .ok (.str (byT x)) H := rfl
theorem f125_ok {s : List Nat} (hs : s.length < 200001) : FnOk Tryz.prog 125 [.str (wrapT s)] H fun r G => r = .tup [.str s, .str [], .nili] ∧ G = H := by
  refine FnOk.drop (R := fun r => r = .tup [.str s, .str [], .nili]) ?_ (by rintro v rfl ρ; simp only [AV.ren, AV.rens])
  refine FnOk.of_WW Tryz.func125 rfl C125ok R125ok EFr good_EFr ?_
  have hl := textT_le (s := s) (by omega)
  obtain ⟨t, ht⟩ : ∃ t, t = textT s := ⟨_, rfl⟩
  have hwl : (wrapT s).length = 4 + t.length := by rw [ht]; exact List.length_append
  have c1 : ¬ ((4 + t.length : Nat) : Int) < 4 := by omega
  have hd4 : ∀ {β : Type} (f : β) (c : List Nat → β), dropC f 4 (wrapT s) c = c t := fun f c => by rw [ht]; rfl
  have ht4 : ∀ {β : Type} (f : β) (c : List Nat → β), takeC f 4 (wrapT s) c = c (byT (sumT t)) := fun f c => by rw [ht]; rfl
  have hw4 : List.take 4 (wrapT s) = byT (sumT t) := by rw [ht]; rfl
  have hd0 : ∀ {β : Type} (f : β) (c : List Nat → β), dropC f 0 (wrapT s) c = c (wrapT s) := fun f c => by rw [dropC_eq, if_pos (Nat.zero_le _), List.drop_zero]
  have h4l : 4 ≤ 4 + t.length := Nat.le_add_right _ _
  have hsub : IntKind.i64.wrap (((4 + t.length : Nat) : Int) - 0) = ((4 + t.length : Nat) : Int) := by rw [Int.sub_zero, wrap_i64 (by omega) (by rw [ht]; omega)]
  have h77 := f148_txt (H := H) (s := s) (l := []) (most := 200000) (by omega) (by simp only [List.length_nil]; omega)
  rw [List.append_nil, ← ht] at h77
  have e := fun H => ef120 (s := t) (by rw [ht]; omega) H
  have p0 : (0 : Int) ≤ ((4 + t.length : Nat) : Int) := by omega
  have q4 : 4 + t.length - 4 = t.length := by omega
  simp only [go_sem, C125, hwl, c1, hd4]
  refine CL.of h77 ?_
  rintro _ G' ⟨rfl, hG⟩; rw [hG]; clear hG
  simp only [go_sem, hwl, hd4, ht4, hd0, hw4, hsub, e, ef119, Int.toNat_natCast, p0, q4, h4l, List.take_length, Nat.le_refl]
  exact ⟨[], rfl⟩
end Go.Proofs
/- shards of a node: which is the first that is so: walked. -/




set_option linter.all false
set_option linter.all false
set_option maxRecDepth 100000
namespace Go.Proofs
open Go Go.Ev
variable {H : Heap}

/-- the place of the first that is so; below 0: there is none -/
def idx {α : Type} (q : α → Bool) : List α → Nat → Int
  | [], _ => -1
  | s :: l, i => if q s = true then i else idx q l (i + 1)
theorem idx_next {α : Type} (q : α → Bool) {l : List α} {i : Nat} {s : α} (h : l[i]? = some s) : idx q (l.drop i) i = if q s = true then (i : Int) else idx q (l.drop (i + 1)) (i + 1) := by
  obtain ⟨h1, h2⟩ := List.getElem?_eq_some_iff.1 h
  rw [List.drop_eq_getElem_cons h1, h2]
  rfl
theorem idx_end {α : Type} (q : α → Bool) {l : List α} {i : Nat} (h : l.length ≤ i) : idx q (l.drop i) i = -1 := by
  rw [List.drop_eq_nil_of_le h]
  rfl
theorem f94_ok {v : AV} {l : List Sh} (hA : Arr H 8 v (l.map Sh.enc)) (hl : l.length ≤ 100000) {g : FuncId} {caps : List AV} (hcall : ∀ args H, callC Tryz.prog g args H = .call g args)
    (hcaps : ∀ top σ, AV.ren (rho H top σ) (.fn (.func g) [] caps) = .fn (.func g) [] caps) {q : Sh → Bool} (hg : ∀ s ∈ l, ∀ L, FnOk Tryz.prog g (.agg s.enc :: caps) (H.ext L) fun r G => r = .bool (q s) ∧ G = H.ext L) :
    FnOk Tryz.prog 94 [v, .fn (.func g) [] caps] H fun r G => r = .int .i64 (idx q l 0) ∧ G = H := by
  refine FnOk.assume fun hok => ?_
  refine FnOk.drop (R := fun r => r = .int .i64 (idx q l 0)) ?_ (by rintro v rfl ρ; rw [AV.ren])
  refine FnOk.of_WW Tryz.func94 rfl C94ok R94ok E0 good_E0 ?_
  have hlen := fun G => hA.len G; simp only [List.length_map] at hlen; have hren := hA.ren
  simp only [go_sem, C94, hlen]
  refine LL.st good_E0 (fun i : Nat => l.length - i) (fun i => i ≤ l.length ∧ idx q l 0 = idx q (l.drop i) i)
    (fun i => [(.z, v), ((.o .z), .fn (.func g) [] caps), ((.i (.i .z)), v), ((.o (.o (.o .z))), .int .i64 l.length), ((.i (.o (.o .z))), .int .i64 i)]) (fun i => []) ?_ 0 (σ := []) (Wk.of rfl (by decide) (by simp only [go_sem, hren, ↓hcaps]) (by simp only [go_sem])) ⟨Nat.zero_le _, rfl⟩
  rintro i ⟨hi, hno⟩
  by_cases hlt : i < l.length
  · obtain ⟨kk, r, ex', cap', wr, rows, hv, hrho, hgo, hrow⟩ := hA.at hok (j := i) (by rw [List.length_map]; exact hlt)
    simp only [List.length_map, List.getElem_map] at hv hrow
    have hget : l[i]? = some l[i] := List.getElem?_eq_getElem hlt
    generalize l[i] = c at hrow hget
    have hw := wrap_succ (n := i) (by omega)
    have hci : (i : Int) < (l.length : Int) := (by omega)
    have hsi : i + 1 ≤ l.length := (by omega)
    have hgc := hg c (List.mem_of_getElem? hget)
    have hnx := idx_next q hget
    simp only [Sh.enc] at hgc
    simp only [go_sem, hv, hci, hsi, hgo, hrow, hw, Sh.enc, hcall]
    refine CL.of (hgc _) ?_
    rintro _ G' ⟨rfl, hG⟩
    rw [hG]
    clear hG
    cases hq : q c
    · rw [hq, if_neg Bool.false_ne_true] at hnx
      simp only [go_sem, hw]
      exact ⟨i + 1, by show l.length - (i + 1) < l.length - i; omega, ⟨by omega, hno.trans hnx⟩, _, [], rfl, Wk.of rfl (by decide) (by simp only [go_sem, hren, hrho, hv, ↓hcaps, hw]; first | done | rfl | trace_state) (by simp only [go_sem])⟩
    · rw [hq, if_pos rfl] at hnx
      simp only [go_sem]
      exact ⟨by rw [hno, hnx], _, rfl⟩
  · have hci : ¬ (i : Int) < (l.length : Int) := by omega
    simp only [go_sem, hci]
    exact ⟨by rw [hno, idx_end q (by omega)], _, rfl⟩
structure Gn where
  id : Int
  ep : Int
def Gn.enc (g : Gn) : List AV := [.int .i64 g.id, .int .i64 g.ep]
/-- requests whose answers have no rows -/
def bareL (l : List Dn) : Prop := ∀ d ∈ l, d.an.rv = .nils ∧ d.an.rows = []
/-- a shard that isn't great -/
structure smallS (s : Sh) : Prop where
  b : bareL s.done
  c : s.cells.length < 1000
  e : s.evs.length < 1000
  d : s.done.length < 1000
/-- a node's shards, and what it gave away -/
structure isHd (G : Heap) (k : K) (lv gv : AV) (hs : List Sh) (gs : List Gn) : Prop where
  ok : G.ok
  row : G.get k = some (.row true 2 [[lv, gv]])
  l : Arr G 8 lv (hs.map Sh.enc)
  g : Arr G 2 gv (gs.map Gn.enc)
  each : ∀ s ∈ hs, s.ok G
  small : ∀ s ∈ hs, smallS s
  few : hs.length ≤ 8 ∧ gs.length ≤ 8
theorem isHd.ext {G : Heap} {k : K} {lv gv : AV} {hs : List Sh} {gs : List Gn} (h : isHd G k lv gv hs gs) (L : List Blk) : isHd (G.ext L) k lv gv hs gs :=
  ⟨Heap.ok_ext h.ok L, Heap.get_ext_old h.ok h.row L, h.l.ext L, h.g.ext L, fun s hs => (h.each s hs).ext L, h.small, h.few⟩
section
variable {G : Heap} {k : K} {lv gv : AV} {hs : List Sh} {gs : List Gn}
theorem f42_ok (h : isHd G k lv gv hs gs) {g : FuncId} {caps : List AV} (hcall : ∀ args H, callC Tryz.prog g args H = .call g args)
    (hcaps : ∀ top σ, AV.ren (rho G top σ) (.fn (.func g) [] caps) = .fn (.func g) [] caps) {q : Sh → Bool} (hg : ∀ s ∈ hs, ∀ L, FnOk Tryz.prog g (.agg s.enc :: caps) (G.ext L) fun r G' => r = .bool (q s) ∧ G' = G.ext L) :
    FnOk Tryz.prog 42 [.ptr k 0, .fn (.func g) [] caps] G fun r G' => r = .int .i64 (idx q hs 0) ∧ G' = G := by
  refine FnOk.drop (R := fun r => r = .int .i64 (idx q hs 0)) ?_ (by rintro v rfl ρ; rw [AV.ren])
  refine FnOk.of_WW Tryz.func42 rfl C42ok R42ok E0 good_E0 ?_
  have hk : ∀ L, (G.ext L).get k = _ := fun L => Heap.get_ext_old h.ok h.row L
  simp only [go_sem, C42, hk]
  have h64 := f94_ok h.l (by have := h.few.1; omega) hcall hcaps hg
  rw [← Heap.ext_nil G] at h64
  refine CL.of h64 ?_
  rintro _ G' ⟨rfl, hG⟩
  rw [hG]
  clear hG
  simp only [go_sem]
  exact ⟨_, rfl⟩
/-- a shard of a number -/
theorem f43_ok {H : Heap} {c : K} {wr : Bool} {n : Int} (hk : H.get c = some (.row wr 1 [[.int .i64 n]])) (s : Sh) : FnOk Tryz.prog 43 [.agg s.enc, .ptr c 0] H fun r G => r = .bool (decide (s.id = n)) ∧ G = H := by
  refine FnOk.assume fun hok => ?_
  refine FnOk.drop (R := fun r => r = .bool (decide (s.id = n))) ?_ (by rintro v rfl ρ; rw [AV.ren])
  refine FnOk.of_WW Tryz.func43 rfl C43ok R43ok E0 good_E0 ?_
  have hgo := Heap.get_ext_old hok hk
  simp only [go_sem, C43, Sh.enc, hgo]
  exact ⟨fun h => ⟨bool_t h, _, rfl⟩, fun h => ⟨bool_f h, _, rfl⟩⟩
end
end Go.Proofs
