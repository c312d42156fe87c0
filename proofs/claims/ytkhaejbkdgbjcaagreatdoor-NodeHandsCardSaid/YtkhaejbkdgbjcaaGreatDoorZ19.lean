/- errors.As, where the error is a number and another type is asked for: by its contract. -/
import Derived.Test.YtkhaejbkdgbjcaaGreatDoorZ18
import Derived.KernelRfl
import Derived.Test.YtkhaejbkdgbjcaaGreatDoorProg
set_option linter.all false
namespace Go.Proofs
open Go.RowKit Go.Extern.Stop Go.Stop Go.Extern
theorem Tryz.as_valueOfB (t : Addr) (w : World) : (ReflectliteValue.unpack (.iface 206 (.pointer (some t)))).run Tryz.prog w
    = .ok (.agg #[.pointer (some ⟨2, 206, none⟩), .pointer (some ⟨w.heap.size, 0, none⟩), .int .u64 150]) (w.alloc (.cells #[.pointer (some t)] 206)) := by kernel_rfl
theorem Tryz.as_typeB (a : Addr) (w : World) : (ReflectliteValue.methodAny (ReflectliteValue.valueError "reflectlite.Value.Type" 0) (fun t _ _ _ => ReflectliteType.toType t) #[.agg #[.pointer (some ⟨2, 206, none⟩), .pointer (some a), .int .u64 150]]).run Tryz.prog w
    = .ok (.iface 242 (.agg #[.pointer (some ⟨2, 206, none⟩)])) w := by kernel_rfl
theorem Tryz.as_kindB (w : World) : ((ReflectliteType.abiMethod fun t => (fun a : Nat => Value.int IntKind.u8 (a : Int)) <$> Rtype.kind t) #[.pointer (some ⟨2, 206, none⟩)]).run Tryz.prog w = .ok (.int .u8 22) w := by kernel_rfl
theorem Tryz.as_kindS (w : World) : ((ReflectliteType.abiMethod fun t => (fun a : Nat => Value.int IntKind.u8 (a : Int)) <$> Rtype.kind t) #[.pointer (some ⟨2, 122, none⟩)]).run Tryz.prog w = .ok (.int .u8 25) w := by kernel_rfl
theorem Tryz.as_partsB (a : Addr) (w : World) : (ReflectliteValue.parts (.agg #[.pointer (some ⟨2, 206, none⟩), .pointer (some a), .int .u64 150])).run Tryz.prog w = .ok (some (206, a, 150)) w := by kernel_rfl
theorem Tryz.as_isNilB (a p : Addr) (W : World) (ha : W.cell? a = some (.pointer (some p))) :
    (ReflectliteValue.method (ReflectliteValue.valueError "reflectlite.Value.IsNil" 0) ReflectliteValue.isNil #[.agg #[.pointer (some ⟨2, 206, none⟩), .pointer (some a), .int .u64 150]]).run Tryz.prog W = .ok (.bool false) W := by
  rw [rlm]
  simp only [Sem.run_bind, Tryz.as_partsB, Result.andThen]
  simp [ReflectliteValue.isNil, loadVar, isAgg, underlying, Tryz.underlying206, ha, Result.andThen]
theorem Tryz.as_elemB (w : World) : (ReflectliteType.method ReflectliteType.elem #[.agg #[.pointer (some ⟨2, 206, none⟩)]]).run Tryz.prog w = .ok (.iface 242 (.agg #[.pointer (some ⟨2, 122, none⟩)])) w := by kernel_rfl
theorem Tryz.as_implementsS (w : World) : (ReflectliteType.relation "Implements" ReflectliteType.implements_ #[.agg #[.pointer (some ⟨2, 122, none⟩)], .iface 242 (.agg #[.pointer (some ⟨2, 72, none⟩)])]).run Tryz.prog w = .ok (.bool true) w := by kernel_rfl
theorem Tryz.as_assignableS (w : World) : (ReflectliteType.relation "AssignableTo" ReflectliteType.assignableTo #[.agg #[.pointer (some ⟨2, 118, none⟩)], .iface 242 (.agg #[.pointer (some ⟨2, 122, none⟩)])]).run Tryz.prog w = .ok (.bool false) w := by kernel_rfl
theorem Tryz.noAs (v : Value) (xT : TypeId) (w : World) : (Instr.typeAssert (.iface 118 v) xT 283 true).run Tryz.prog w = .ok (.tuple #[.nilIface, .bool false]) w := run_typeAssert_lacksB Tryz.underlying283 (by kernel_rfl) (by kernel_rfl) v xT w
set_option maxHeartbeats 4000000 in
theorem as_miss (e : Int) (t : Addr) (w : World) (hg : w.cell? ⟨0, 0, none⟩ = some (.iface 242 (.agg #[.pointer (some ⟨2, 72, none⟩)]))) :
    Calls Tryz.prog 105 #[.iface 118 (.int .i64 e), .iface 206 (.pointer (some t))] w fun ev w' => ev = .returned (.bool false) ∧ w' = (((w.alloc (.cells #[.pointer (some t)] 206)).alloc (.cells #[.pointer (some ⟨2, 206, none⟩), .pointer (some ⟨w.heap.size, 0, none⟩), .int .u64 150] 225)).alloc (.cells #[.pointer (some ⟨2, 206, none⟩), .pointer (some ⟨w.heap.size, 0, none⟩), .int .u64 150] 225)) := by
  have h6 := @run_callFunc_extern Tryz.prog 161 _ (fun args => ReflectliteValue.unpack (args.getD 0 (.tuple #[]))) Tryz.func161 (by kernel_rfl) (by kernel_rfl) (by kernel_rfl) (by kernel_rfl)
  have h7 := @run_callFunc_extern Tryz.prog 162 _ (ReflectliteValue.methodAny (ReflectliteValue.valueError "reflectlite.Value.Type" 0) (fun t _ _ _ => ReflectliteType.toType t)) Tryz.func162 (by kernel_rfl) (by kernel_rfl) (by kernel_rfl) (by kernel_rfl)
  have h8 := @run_callFunc_extern Tryz.prog 163 _ (ReflectliteValue.method (ReflectliteValue.valueError "reflectlite.Value.IsNil" 0) ReflectliteValue.isNil) Tryz.func163 (by kernel_rfl) (by kernel_rfl) (by kernel_rfl) (by kernel_rfl)
  have h27 := @run_callFunc_extern Tryz.prog 300 _ (ReflectliteType.abiMethod fun t => do pure (.int .u8 (← Rtype.kind t))) Tryz.func300 (by kernel_rfl) (by kernel_rfl) (by kernel_rfl) (by kernel_rfl)
  have h37 := @run_callFunc_extern Tryz.prog 312 _ (ReflectliteType.method ReflectliteType.elem) Tryz.func312 (by kernel_rfl) (by kernel_rfl) (by kernel_rfl) (by kernel_rfl)
  have h38 := @run_callFunc_extern Tryz.prog 313 _ (ReflectliteType.relation "Implements" ReflectliteType.implements_) Tryz.func313 (by kernel_rfl) (by kernel_rfl) (by kernel_rfl) (by kernel_rfl)
  have h10 := @run_callFunc_extern Tryz.prog 127 _ ReflectliteType.typeOf Tryz.func127 (by kernel_rfl) (by kernel_rfl) (by kernel_rfl) (by kernel_rfl)
  have h35 := @run_callFunc_extern Tryz.prog 310 _ (ReflectliteType.relation "AssignableTo" ReflectliteType.assignableTo) Tryz.func310 (by kernel_rfl) (by kernel_rfl) (by kernel_rfl) (by kernel_rfl)
  have tO := Tryz.as_typeOf25
  have mA := Tryz.as_methodAssignableTo
  have a25 := Tryz.as_assignableS
  have f6 := Tryz.as_valueOfB
  have f7 := Tryz.as_typeB
  have mK := Tryz.as_methodKind
  have mE := Tryz.as_methodElem
  have mI := Tryz.as_methodImplements
  have k27 := Tryz.as_kindB
  have k25 := Tryz.as_kindS
  have e27 := Tryz.as_elemB
  have i25 := Tryz.as_implementsS
  have n1 := Tryz.noAs
  have n2 := Tryz.noUnwrap
  have n3 := Tryz.noUnwraps
  have n8 := Tryz.as_isNilB ⟨w.heap.size, 0, none⟩ t ((w.alloc (.cells #[.pointer (some t)] 206)).alloc (.cells #[.pointer (some ⟨2, 206, none⟩), .pointer (some ⟨w.heap.size, 0, none⟩), .int .u64 150] 225)) (by simp)
  have hlt : 0 < w.heap.size := by
    rcases Nat.eq_zero_or_pos w.heap.size with h0 | h
    · simp [World.cell?, h0] at hg
    · exact h
  have hg2 : ((w.alloc (.cells #[.pointer (some t)] 206)).alloc (.cells #[.pointer (some ⟨2, 206, none⟩), .pointer (some ⟨w.heap.size, 0, none⟩), .int .u64 150] 225)).cell? ⟨0, 0, none⟩ = some (.iface 242 (.agg #[.pointer (some ⟨2, 72, none⟩)])) := by
    rw [World.cell?_alloc_lt _ _ ⟨0, 0, none⟩ (by simp), World.cell?_alloc_lt _ _ ⟨0, 0, none⟩ hlt]; exact hg
  go_enter Tryz.func105, Tryz.ntmps105
  go_wp2
  refine wp_loop_rounds 1 ?_
  rw [rounds_succ]
  go_wp2
  go_ret
  exact ⟨rfl, rfl⟩
end Go.Proofs
/- The functions whose answers are known: slices.Insert, errors.Is, errors.As. -/


set_option linter.all false
set_option maxRecDepth 100000
namespace Go.Proofs
open Go Go.Ev
variable {H : Heap}
theorem ins183 : InsFn Tryz.prog 183 6 72 [.int .i64 0, .int .i64 0, .int .i64 0, .str [], .int .i64 0, .nils] := ⟨⟨Tryz.f183, 220, 221, Tryz.func183, by kernel_rfl, by kernel_rfl, by kernel_rfl, by kernel_rfl⟩, rfl, by decide⟩
theorem ins275 : InsFn Tryz.prog 275 5 56 [.str [], .str [], .int .i64 0, .bool false, .int .i64 0] := ⟨⟨Tryz.f275, 281, 282, Tryz.func275, by kernel_rfl, by kernel_rfl, by kernel_rfl, by kernel_rfl⟩, rfl, by decide⟩
theorem num_inv {φ : Phi} {n : Int} {v : Value} (h : VRel Tryz.prog φ (.iface 118 (.int .i64 n)) v) : v = .iface 118 (.int .i64 n) := by
  cases h with | iface _ _ v' h => cases h; rfl
theorem nil_inv {φ : Phi} {v : Value} (h : VRel Tryz.prog φ .nili v) : v = .nilIface := by cases h; rfl
theorem b1 {α : Type} {a b : Nat} {x : Option α} {y : α} (e : bif' (Nat.beq a b) x none = some y) : a = b ∧ x = some y := by
  cases hb : Nat.beq a b with
  | true => rw [hb] at e; exact ⟨Nat.eq_of_beq_eq_true hb, e⟩
  | false => rw [hb] at e; cases e
theorem is_ok (args : List AV) (H : Heap) (v : AV) (G : Heap) (h : isA 118 args H = some (.ok v G)) : FnOk Tryz.prog 64 args H fun v' G' => v' = v ∧ G' = G := by
  unfold isA at h
  split at h
  case h_3 => cases h
  · obtain ⟨rfl, h⟩ := b1 h
    cases h
    refine FnOk.of_calls fun φ w args' ha hw => ?_
    obtain ⟨x, y, rfl, h1, h2⟩ := two_args ha
    obtain rfl := nil_inv h1
    obtain rfl := num_inv h2
    refine (is_nil _ w).mono ?_
    rintro e w' ⟨rfl, rfl⟩
    exact ⟨⟨_, rfl, .bool _⟩, Grows.refl _⟩
  · obtain ⟨q1, g1⟩ := b1 h
    obtain ⟨q2, g2⟩ := b1 g1
    rw [eqI_eq] at g2
    cases g2
    rw [q1, q2]
    refine FnOk.of_calls fun φ w args' ha hw => ?_
    obtain ⟨x, y, rfl, h1, h2⟩ := two_args ha
    obtain rfl := num_inv h1
    obtain rfl := num_inv h2
    refine (is_num _ _ w).mono ?_
    rintro e w' ⟨rfl, rfl⟩
    refine ⟨⟨_, rfl, ?_⟩, Grows.refl _⟩
    exact .bool _
theorem as_ok (args : List AV) (H : Heap) (v : AV) (G : Heap) (h : asA 118 165 206 args H = some (.ok v G)) : FnOk Tryz.prog 105 args H fun v' G' => v' = v ∧ G' = G := by
  unfold asA at h
  split at h
  case h_3 => cases h
  · cases h
    refine FnOk.of_calls fun φ w args' ha hw => ?_
    obtain ⟨x, y, rfl, h1, h2⟩ := two_args ha
    obtain rfl := nil_inv h1
    refine (as_nil y w).mono ?_
    rintro e w' ⟨rfl, rfl⟩
    exact ⟨⟨_, rfl, .bool _⟩, Grows.refl _⟩
  · rename_i t1 n t2 k
    obtain ⟨q1, h⟩ := b1 h
    rw [q1]
    cases hb : Nat.beq t2 206 with
    | true =>
      rw [hb] at h
      cases h
      obtain rfl := Nat.eq_of_beq_eq_true hb
      refine FnOk.of_calls fun φ w args' ha hw => ?_
      obtain ⟨x, y, rfl, h1, h2⟩ := two_args ha
      obtain rfl := num_inv h1
      cases h2 with
      | iface _ _ u' h2 =>
        cases h2 with
        | ptr _ _ a ha2 =>
          refine (as_miss n ⟨a.b, a.o + 0, none⟩ w (hw.rom 0 _ (List.mem_singleton.2 rfl)).1).mono ?_
          rintro e w' ⟨rfl, rfl⟩
          exact ⟨⟨_, rfl, .bool _⟩, (((Grows.alloc _ _).trans (Grows.alloc _ _)).trans (Grows.alloc _ _))⟩
    | false =>
      rw [hb, bif_false] at h
      obtain ⟨q2, h⟩ := b1 h
      rw [q2]
      split at h
      case h_2 => cases h
      rename_i x hk
      rw [Heap.setC_eq] at h
      cases h
      refine FnOk.of_calls_set (y' := .int .i64 n) hk (fun φ => .int _ _) rfl (fun φ => ⟨_, .bool _⟩) fun φ w args' ha hw => ?_
      obtain ⟨v, u, rfl, h1, h2⟩ := two_args ha
      obtain rfl := num_inv h1
      cases h2 with
      | iface _ _ u' h2 =>
        cases h2 with
        | ptr _ _ a ha2 =>
          refine ⟨a, ha2, fun old ho hf => ?_⟩
          refine (as_hit n ⟨a.b, a.o, none⟩ old w (hw.rom 0 _ (List.mem_singleton.2 rfl)).1 ho hf).mono ?_
          rintro e w' ⟨rfl, rfl⟩
          exact ⟨⟨_, rfl, .bool _⟩, _, (((Grows.alloc _ _).trans (Grows.alloc _ _)).trans (Grows.alloc _ _)).trans (Grows.alloc _ _), rfl⟩
/-- what is known beforehand -/
noncomputable def XK : Orc := orX 183 (insA 6 72) (orX 275 (insA 5 56) (orX 64 (isA 118) (orX 105 (asA 118 165 206) X0)))
theorem good_XK : GoodX Tryz.prog XK := good_orX (insA_sound ins183) (good_orX (insA_sound ins275) (good_orX is_ok (good_orX as_ok good_X0)))
end Go.Proofs
/- The known example: reckoned. -/

set_option linter.all false
set_option maxRecDepth 100000
namespace Go.Proofs
open Go Go.Ev
variable {H : Heap}
theorem known_run : Go.Ev.okB (evFn Tryz.prog XK 100000 8 [] hp0) = true := by kernel_rfl
theorem known_ok : FnOk Tryz.prog 8 [] H fun r G => r = .bool true ∧ G = H := FnOk.lift0 rfl rfl (FnOk.of_evB good_XK known_run)
noncomputable def kA (args : List AV) (H : Heap) : Option RC := match args with
  | [] => some (.ok (.bool true) H)
  | _ => none
theorem kA_ok (args : List AV) (H : Heap) (v : AV) (G : Heap) (h : kA args H = some (.ok v G)) : FnOk Tryz.prog 8 args H fun v' G' => v' = v ∧ G' = G := by
  unfold kA at h
  split at h
  · cases h; exact known_ok
  · cases h
/-- the known example is known, too -/
noncomputable def XL : Orc := orX 8 kA XK
theorem good_XL : GoodX Tryz.prog XL := good_orX kA_ok good_XK
end Go.Proofs
/- What is still to be done, reckoned. -/

set_option linter.all false
namespace Go.Ev
variable {P : Program} {φ ψ : Phi} {H : Heap} {w u : World} {T : Tr AV}

/-- the items that are left, reckoned behind one another -/
noncomputable def evI (E : FuncId → List AV → Heap → RC) (n : Nat) (k : List It) : Ex → Tr AV → Heap → Res :=
  List.rec (motive := fun _ => Ex → Tr AV → Heap → Res) (fun e T H => .ok e T H)
    (fun i _ ih e T H => Ex.rec (motive := fun _ => Res)
      (It.rec (motive := fun _ => Res)
        (fun l => Res.rec (motive := fun _ => Res) .fail (fun e T H => ih e T H) (stepsC eqAV E l T H .fail fun T H => .ok .norm T H))
        (fun l => Res.rec (motive := fun _ => Res) .fail (fun e T H => ih e T H) (stepsC eqAV E l T H .fail fun T H => .ok .norm T H))
        (fun c => Res.rec (motive := fun _ => Res) .fail (fun e T H => ih e T H) (evC E n c T H))
        (fun _ => ih .norm T H) i)
      (fun m => It.rec (motive := fun _ => Res) (fun _ => ih (.exit m) T H) (fun _ => ih (.exit m) T H) (fun _ => ih (.exit m) T H)
        (fun id => bif' (Nat.beq m id) (ih .norm T H) (ih (.exit m) T H)) i)
      (ih .ret T H) e) k
/-- all that is left, reckoned: is the function's answer yes? -/
noncomputable def evB (E : FuncId → List AV → Heap → RC) (n : Nat) (k : List It) (kr : K) (T : Tr AV) (H : Heap) : Bool :=
  Res.rec (motive := fun _ => Bool) false (fun e T _ => Ex.rec (motive := fun _ => Bool)
    (Option.rec (motive := fun _ => Bool) false (fun v => asBoolC v false fun b => b) (T.get kr)) (fun _ => false)
    (Option.rec (motive := fun _ => Bool) false (fun v => asBoolC v false fun b => b) (T.get kr)) e) (evI E n k .norm T H)
/-- the memory that is left -/
noncomputable def resH (r : RC) : Heap := RC.rec (motive := fun _ => Heap) hp0 (fun _ G => G) r
/-- is that what comes of it? -/
noncomputable def isR (r : RC) (v : AV) : Bool := RC.rec (motive := fun _ => Bool) false (fun w _ => eqAV w v) r
theorem FnOk.of_evV {X : Orc} (hX : GoodX P X) {n : Nat} {f : FuncId} {args : List AV} {v : AV} (h : isR (evFn P X n f args H) v = true) : FnOk P f args H fun v' G => v' = v ∧ G = resH (evFn P X n f args H) := by
  cases hr : evFn P X n f args H with
  | fail => rw [hr] at h; cases h
  | ok w G =>
    rw [hr] at h
    have h : eqAV w v = true := h
    rw [← eqAV_eq h]
    exact FnOk.of_ev hX hr
end Go.Ev
/- Calls whose arguments hold no address: reckoned without memory, they are so in any memory. -/

set_option linter.all false
namespace Go.Ev
variable {P : Program} {φ ψ : Phi} {H : Heap} {w u : World}
def AV.flat1 : AV → Bool
  | .agg l => l.all AV.flat
  | v => v.flat
theorem flat1_rel {v : AV} {x : Value} (hf : v.flat1 = true) (h : VRel P φ v x) (ψ : Phi) : VRel P ψ v x := by
  cases v with
  | agg l =>
    cases h with
    | agg _ c h1 h2 => exact .agg _ _ (flats_rel ψ hf h1) h2
  | _ => exact flat_rel (by exact hf) h ψ
theorem flats1_rel (ψ : Phi) {l : List AV} {l' : List Value} (hf : l.all AV.flat1 = true) (h : VRels P φ l l') : VRels P ψ l l' := by
  induction l generalizing l' with
  | nil => cases h; exact .nil
  | cons v l ih =>
    cases h with
    | cons _ _ v' l' h hs =>
      rw [List.all_cons, Bool.and_eq_true] at hf
      exact .cons _ _ _ _ (flat1_rel hf.1 h ψ) (ih hf.2 hs)
def AV.flat2 : AV → Bool
  | .tup l => l.all AV.flat1
  | v => v.flat1
theorem flat2_rel {v : AV} {x : Value} (hf : v.flat2 = true) (h : VRel P φ v x) (ψ : Phi) : VRel P ψ v x := by
  cases v with
  | tup l =>
    cases h with
    | tup _ c h1 => exact .tup _ _ (flats1_rel ψ hf h1)
  | _ => exact flat1_rel (by exact hf) h ψ
theorem FnOk.lift1 {f : FuncId} {args : List AV} {v : AV} (ha : args.all AV.flat1 = true) (hv : v.flat2 = true) (h : FnOk P f args hp0 fun r _ => r = v) : FnOk P f args H fun r G => r = v ∧ G = H := by
  intro φ w args' hargs hw
  refine (h (fun _ => none) w args' (flats1_rel _ ha hargs) hw.to0).mono ?_
  rintro e u ⟨_, G, rfl, ψ, x, rfl, hx, hwu, hE⟩
  have hno : ∀ b, b < w.heap.size → u.heap[b]? = w.heap[b]? := by
    intro b hb
    refine hE.keeps b hb ?_
    rintro ⟨k, c, a, hk, _⟩
    rw [hp0_get] at hk; cases hk
  exact ⟨_, H, ⟨rfl, rfl⟩, φ, x, rfl, flat2_rel hv hx φ, hw.grows hE.size hno, ⟨fun _ _ => rfl, Nat.le_refl _, hE.size, fun b hb _ => hno b hb, fun _ _ _ => rfl, fun _ _ h => h, hE.os, hE.tape, hE.output⟩⟩
/-- what is reckoned without memory -/
theorem FnOk.of_ev1 {X : Orc} (hX : GoodX P X) {n : Nat} {f : FuncId} {args : List AV} {v : AV} (ha : args.all AV.flat1 = true) (hv : v.flat2 = true) (h : isR (evFn P X n f args hp0) v = true) : FnOk P f args H fun r G => r = v ∧ G = H :=
  FnOk.lift1 ha hv ((FnOk.of_evV hX h).mono fun _ _ h => h.1)
end Go.Ev
/- Letters, records of a put: reckoned. -/


set_option linter.all false
set_option maxRecDepth 100000
namespace Go.Proofs
open Go Go.Ev
variable {H : Heap}
noncomputable def EK : FuncId → List AV → Heap → RC := evFn Tryz.prog XL 100000
end Go.Proofs
set_option linter.all false
set_option maxRecDepth 100000
namespace Go.Proofs
open Go Go.Ev
/-! maps whose keys are literal numbers -/
noncomputable def mapB {β : Type} (b : Blk) (f : β) (c : List (AV × AV) → β) : β := Blk.rec (motive := fun _ => β) f (fun _ _ _ => f) c b
@[go_sem] theorem mapB_map {β : Type} (es : List (AV × AV)) (f : β) (c : List (AV × AV) → β) : mapB (.map es) f c = c es := rfl
@[go_sem] theorem mapC_opt {β : Type} (H : Heap) (k : K) (f : β) (c : List (AV × AV) → β) : mapC H k f c = optC (H.get k) f fun b => mapB b f c := rfl
@[go_sem] theorem mpC_nil {β : Type} (lk : LK) (k v : AV) (f : β) (c : List (AV × AV) → β) : mpC lk k v f [] c = c [(k, v)] := rfl
@[go_sem] theorem mpC_int {β : Type} (a b : Int) (v x : AV) (f : β) (es : List (AV × AV)) (c : List (AV × AV) → β) : mpC .int (.int .i64 a) v f ((.int .i64 b, x) :: es) c = if a = b then c ((.int .i64 a, v) :: es) else mpC .int (.int .i64 a) v f es fun r => c ((.int .i64 b, x) :: r) := by
  show bif' (Nat.beq (Ev.kn .i64) (Ev.kn .i64)) (eqI a b fun z => bif' z (c ((.int .i64 a, v) :: es)) (mpC .int (.int .i64 a) v f es fun r => c ((.int .i64 b, x) :: r))) f = _
  rw [show Nat.beq (Ev.kn .i64) (Ev.kn .i64) = true from rfl, bif_true, eqI_eq, bif_dec]
@[go_sem] theorem mfC_nil {β : Type} (lk : LK) (k : AV) (f : β) (c : Option AV → β) : mfC lk k [] f c = c none := rfl
@[go_sem] theorem mfC_int {β : Type} (a b : Int) (x : AV) (f : β) (es : List (AV × AV)) (c : Option AV → β) : mfC .int (.int .i64 a) ((.int .i64 b, x) :: es) f c = if a = b then c (some x) else mfC .int (.int .i64 a) es f c := by
  show bif' (Nat.beq (Ev.kn .i64) (Ev.kn .i64)) (eqI a b fun z => bif' z (c (some x)) (mfC .int (.int .i64 a) es f c)) f = _
  rw [show Nat.beq (Ev.kn .i64) (Ev.kn .i64) = true from rfl, bif_true, eqI_eq, bif_dec]
@[go_sem] theorem mlEnd_some (z v : AV) (H : Heap) : mlEnd false z H (some v) = .val v H := rfl
@[go_sem] theorem mlEnd_none (z : AV) (H : Heap) : mlEnd false z H none = .val z H := rfl
@[go_sem] theorem mlEnd_some2 (z v : AV) (H : Heap) : mlEnd true z H (some v) = .val (.tup [v, .bool true]) H := rfl
@[go_sem] theorem mlEnd_none2 (z : AV) (H : Heap) : mlEnd true z H none = .val (.tup [z, .bool false]) H := rfl
@[go_sem] theorem lk3 : lkOf Tryz.prog 3 = .int := by kernel_rfl
attribute [go_sem] mkmR mupR mlkR mkfR
@[go_sem] theorem fn_neq {β : Type} (fn : Fn) (l m : List AV) (f : β) (c : AV → β) : binV Tryz.prog EK.func none true BinOp.neq (.fn fn l m) .nilf f c = c (.bool true) := rfl
theorem clo40 : CloFn Tryz.prog 40 2 24 [.str [], .int .i64 0] := ⟨⟨Tryz.f40, Tryz.func40, by kernel_rfl, by kernel_rfl⟩, rfl, by decide⟩
section
variable {G : Heap} {kn kd kj kh : K}
theorem isWt.ext {wv : AV} {ws : List (List AV)} (h : isWt G wv ws) (hok : G.ok) (L : List Blk) : isWt (G.ext L) wv ws := by
  rcases h with h | ⟨kw, h1, h2, h3⟩
  · exact .inl h
  · exact .inr ⟨kw, h1, h2, Heap.get_ext_old hok h3 L⟩
end
end Go.Proofs
/- numbers of an answer: walked. -/


set_option linter.all false
set_option maxRecDepth 100000
namespace Go.Proofs
open Go Go.Ev
variable {H : Heap}
@[go_sem] theorem sz3 : ∀ h, (Tryz.prog.types[3]'h).size = 1 := by intro h; kernel_rfl
@[go_sem] theorem sz44 : ∀ h, (Tryz.prog.types[44]'h).size = 24 := by intro h; kernel_rfl
attribute [go_sem] cpyF
/-- a letter of numbers behind the first one -/
def numL (a b c : Int) : List AV := [.int .i64 0, .int .i64 0, .int .i64 0, .int .i64 0, .int .i64 a, .int .i64 b, .int .i64 c, .int .i64 0, .int .i64 0, .str [], .str [], .str [], .int .i64 0, .nils, .int .i64 0, .str [], .int .i64 0, .nils, .str [], .str [], .nils, .nils, .nils, .str []]
theorem f85_two (a b : Int) {k : K} {ex : Bool} {cap : Nat} (hk : H.get k = some (.row true 1 [[.int .i64 a], [.int .i64 b]])) : FnOk Tryz.prog 85 [.slice k 0 2 1 ex cap] H fun r G => r = .agg (numL a b 0) ∧ G = H := by
  refine FnOk.assume fun hok => ?_
  have hk' := fun L => Heap.get_ext_old hok hk L
  refine FnOk.drop (R := fun r => r = .agg (numL a b 0)) ?_ (by rintro v rfl ρ; simp only [numL, AV.ren, AV.rens])
  refine FnOk.of_WW Tryz.func85 rfl C85ok R85ok E0 good_E0 ?_
  simp only [go_sem, C85, hk', List.flatten_cons, List.flatten_nil, List.append_nil, List.length_cons, List.length_nil]
  refine ⟨fun h => absurd h (by decide), fun _ => ?_⟩
  have hm : Nat.min 2 4 = 2 := rfl
  have hr : ∀ {β : Type} (f : β) (x y : AV) (c : List AV → β), readC f 1 [[x], [y]] 0 2 c = c [x, y] := fun _ _ _ _ => rfl
  simp only [go_sem, hm, hr, List.flatten_cons, List.flatten_nil, List.append_nil, List.length_cons, List.length_nil, List.cons_append, List.nil_append]
  exact ⟨rfl, _, rfl⟩
end Go.Proofs
/- The laid-out code of the functions that are walked. -/

set_option linter.all false
set_option maxRecDepth 100000
namespace Go.Proofs
open Go Go.Ev K
end Go.Proofs
/- Poll letters: walked. -/



set_option linter.all false
set_option maxRecDepth 100000
namespace Go.Proofs
open Go Go.Ev
variable {H : Heap}
theorem f69_run0 : isR (EK 69 [.int .i64 0] hp0) (.bool true) = true := by kernel_rfl
theorem f69_ok0 : FnOk Tryz.prog 69 [.int .i64 0] H fun r G => r = .bool true ∧ G = H := FnOk.of_ev1 good_XL rfl rfl f69_run0
end Go.Proofs
/- Numbers of a letter: walked. -/

set_option linter.all false
set_option maxRecDepth 100000
namespace Go.Proofs
open Go Go.Ev
variable {H : Heap}
theorem f67_ok {n : Int} (h0 : 0 ≤ n) (h1 : n ≤ 1000000000000) : FnOk Tryz.prog 67 [.int .i64 n] H fun r G => r = .bool false ∧ G = H := by
  refine FnOk.drop (R := fun r => r = .bool false) ?_ (by rintro v rfl ρ; rw [AV.ren])
  refine FnOk.of_WW Tryz.func67 rfl C67ok R67ok E0 good_E0 ?_
  have z0 : (n < 0) = False := eq_false (by omega)
  have z1 : (1000000000000 < n) = False := eq_false (by omega)
  simp only [go_sem, C67, z0, z1]
  first | exact ⟨_, rfl⟩ | exact ⟨rfl, _, rfl⟩ | trace_state
/-- may be sent -/
def okI (n : Int) : Prop := 0 ≤ n ∧ n ≤ 1000000000000
theorem f133_none {k : K} {wr : Bool} {b0 b1 b2 c0 c1 c2 c3 c4 c5 c6 c7 c8 c9 c10 c11 c12 c13 c14 c15 : AV} {a0 a1 a2 a3 a4 : Int} (hk : H.get k = some (.row wr 24 [[b0, b1, b2, .int .i64 a0, .int .i64 a1, .int .i64 a2, .int .i64 a3, .int .i64 a4, c0, c1, c2, c3, c4, c5, c6, c7, c8, c9, c10, c11, c12, c13, c14, c15]])) (h0 : okI a0) (h1 : okI a1) (h2 : okI a2) (h3 : okI a3) (h4 : okI a4) :
    FnOk Tryz.prog 133 [.slice k 3 5 1 true 5, .fn (.func 67) [] []] H fun r G => r = .int .i64 (-1) ∧ G = H := by
  refine FnOk.assume fun hok => ?_
  refine FnOk.drop (R := fun r => r = .int .i64 (-1)) ?_ (by rintro v rfl ρ; rw [AV.ren])
  refine FnOk.of_WW Tryz.func133 rfl C133ok R133ok E0 good_E0 ?_
  have hk' := fun L => Heap.get_ext_old hok hk L
  simp only [go_sem, C133]
  refine LL.sth good_E0 (fun i : Nat => 5 - i) (fun i M => M = H ∧ i ≤ 5)
    (fun i => [(.z, .slice k 3 5 1 true 5), ((.o .z), .fn (.func 67) [] []), ((.o (.o (.o .z))), .int .i64 5), ((.i (.o (.o .z))), .int .i64 i)]) ?_ 0 ⟨Heap.ext_nil H, Nat.zero_le _⟩ (Slots.all (by simp only [go_sem]; first | done | rfl | trace_state))
  rintro i M ⟨rfl, hi⟩
  rcases (show i = 0 ∨ i = 1 ∨ i = 2 ∨ i = 3 ∨ i = 4 ∨ i = 5 by omega) with rfl | rfl | rfl | rfl | rfl | rfl
  · simp only [go_sem, hk']
    refine CL.of (f67_ok h0.1 h0.2) ?_
    rintro _ G' ⟨rfl, hG⟩; rw [hG]; clear hG
    have hw : IntKind.i64.wrap (((0 : Nat) : Int) + 1) = ((1 : Nat) : Int) := rfl
    simp only [go_sem, hw]
    rw [Heap.ext_nil]
    exact ⟨1, by decide, ⟨rfl, by decide⟩, Slots.all (by simp only [go_sem]; first | done | rfl | trace_state)⟩
  · simp only [go_sem, hk']
    refine CL.of (f67_ok h1.1 h1.2) ?_
    rintro _ G' ⟨rfl, hG⟩; rw [hG]; clear hG
    have hw : IntKind.i64.wrap (((1 : Nat) : Int) + 1) = ((2 : Nat) : Int) := rfl
    simp only [go_sem, hw]
    rw [Heap.ext_nil]
    exact ⟨2, by decide, ⟨rfl, by decide⟩, Slots.all (by simp only [go_sem]; first | done | rfl | trace_state)⟩
  · simp only [go_sem, hk']
    refine CL.of (f67_ok h2.1 h2.2) ?_
    rintro _ G' ⟨rfl, hG⟩; rw [hG]; clear hG
    have hw : IntKind.i64.wrap (((2 : Nat) : Int) + 1) = ((3 : Nat) : Int) := rfl
    simp only [go_sem, hw]
    rw [Heap.ext_nil]
    exact ⟨3, by decide, ⟨rfl, by decide⟩, Slots.all (by simp only [go_sem]; first | done | rfl | trace_state)⟩
  · simp only [go_sem, hk']
    refine CL.of (f67_ok h3.1 h3.2) ?_
    rintro _ G' ⟨rfl, hG⟩; rw [hG]; clear hG
    have hw : IntKind.i64.wrap (((3 : Nat) : Int) + 1) = ((4 : Nat) : Int) := rfl
    simp only [go_sem, hw]
    rw [Heap.ext_nil]
    exact ⟨4, by decide, ⟨rfl, by decide⟩, Slots.all (by simp only [go_sem]; first | done | rfl | trace_state)⟩
  · simp only [go_sem, hk']
    refine CL.of (f67_ok h4.1 h4.2) ?_
    rintro _ G' ⟨rfl, hG⟩; rw [hG]; clear hG
    have hw : IntKind.i64.wrap (((4 : Nat) : Int) + 1) = ((5 : Nat) : Int) := rfl
    simp only [go_sem, hw]
    rw [Heap.ext_nil]
    exact ⟨5, by decide, ⟨rfl, by decide⟩, Slots.all (by simp only [go_sem]; first | done | rfl | trace_state)⟩
  · simp only [go_sem, hk']
    first | exact ⟨_, rfl⟩ | exact ⟨rfl, _, rfl⟩ | trace_state
end Go.Proofs
/- Poll letters: walked. -/

set_option linter.all false
set_option maxRecDepth 100000
namespace Go.Proofs
open Go Go.Ev
variable {H : Heap}
theorem f70_none {k : K} {wr : Bool} {b0 b1 b2 c0 c1 c2 c3 c4 c5 c6 c7 c8 c9 c10 c11 c12 c13 c14 c15 : AV} {a0 a1 a2 a3 a4 : Int} (hk : H.get k = some (.row wr 24 [[b0, b1, b2, .int .i64 a0, .int .i64 a1, .int .i64 a2, .int .i64 a3, .int .i64 a4, c0, c1, c2, c3, c4, c5, c6, c7, c8, c9, c10, c11, c12, c13, c14, c15]])) (h0 : okI a0) (h1 : okI a1) (h2 : okI a2) (h3 : okI a3) (h4 : okI a4) :
    FnOk Tryz.prog 70 [.slice k 3 5 1 true 5, .fn (.func 67) [] []] H fun r G => r = .bool false ∧ G = H := by
  refine FnOk.assume fun hok => ?_
  refine FnOk.drop (R := fun r => r = .bool false) ?_ (by rintro v rfl ρ; rw [AV.ren])
  refine FnOk.of_WW Tryz.func70 rfl C70ok R70ok E0 good_E0 ?_
  simp only [go_sem, C70]
  refine CL.of (f133_none (Heap.get_ext_old hok hk _) h0 h1 h2 h3 h4) ?_
  rintro _ G' ⟨rfl, hG⟩; rw [hG]; clear hG
  have z : ((0 : Int) ≤ -1) = False := eq_false (by decide)
  simp only [go_sem, z]
  first | exact ⟨_, rfl⟩ | exact ⟨rfl, _, rfl⟩ | trace_state
theorem f134_nil (f : AV) : FnOk Tryz.prog 134 [.nils, f] H fun r G => r = .int .i64 (-1) ∧ G = H := by
  refine FnOk.drop (R := fun r => r = .int .i64 (-1)) ?_ (by rintro v rfl ρ; rw [AV.ren])
  refine FnOk.of_WW Tryz.func134 rfl C134ok R134ok E0 good_E0 ?_
  simp only [go_sem, C134]
  refine LL.sth good_E0 (fun i : Nat => 5 - i) (fun i M => M = H ∧ i = 0)
    (fun i => [(.z, .nils), ((.o .z), f), ((.o (.o (.o .z))), .int .i64 0), ((.i (.o (.o .z))), .int .i64 0)]) ?_ 0 ⟨Heap.ext_nil H, rfl⟩ (Slots.all (by simp only [go_sem]; first | done | rfl | trace_state))
  rintro i M ⟨rfl, rfl⟩
  simp only [go_sem]
  first | exact ⟨_, rfl⟩ | exact ⟨rfl, _, rfl⟩ | trace_state
theorem f135_nil (f : AV) : FnOk Tryz.prog 135 [.nils, f] H fun r G => r = .int .i64 (-1) ∧ G = H := by
  refine FnOk.drop (R := fun r => r = .int .i64 (-1)) ?_ (by rintro v rfl ρ; rw [AV.ren])
  refine FnOk.of_WW Tryz.func135 rfl C135ok R135ok E0 good_E0 ?_
  simp only [go_sem, C135]
  refine LL.sth good_E0 (fun i : Nat => 5 - i) (fun i M => M = H ∧ i = 0)
    (fun i => [(.z, .nils), ((.o .z), f), ((.o (.o (.o .z))), .int .i64 0), ((.i (.o (.o .z))), .int .i64 0)]) ?_ 0 ⟨Heap.ext_nil H, rfl⟩ (Slots.all (by simp only [go_sem]; first | done | rfl | trace_state))
  rintro i M ⟨rfl, rfl⟩
  simp only [go_sem]
  first | exact ⟨_, rfl⟩ | exact ⟨rfl, _, rfl⟩ | trace_state
theorem f72_nil (f : AV) : FnOk Tryz.prog 72 [.nils, f] H fun r G => r = .bool false ∧ G = H := by
  refine FnOk.drop (R := fun r => r = .bool false) ?_ (by rintro v rfl ρ; rw [AV.ren])
  refine FnOk.of_WW Tryz.func72 rfl C72ok R72ok E0 good_E0 ?_
  simp only [go_sem, C72]
  refine CL.of (f134_nil f) ?_
  rintro _ G' ⟨rfl, hG⟩; rw [hG]; clear hG
  have z : ((0 : Int) ≤ -1) = False := eq_false (by decide)
  simp only [go_sem, z]
  first | exact ⟨_, rfl⟩ | exact ⟨rfl, _, rfl⟩ | trace_state
theorem f75_nil (f : AV) : FnOk Tryz.prog 75 [.nils, f] H fun r G => r = .bool false ∧ G = H := by
  refine FnOk.drop (R := fun r => r = .bool false) ?_ (by rintro v rfl ρ; rw [AV.ren])
  refine FnOk.of_WW Tryz.func75 rfl C75ok R75ok E0 good_E0 ?_
  simp only [go_sem, C75]
  refine CL.of (f135_nil f) ?_
  rintro _ G' ⟨rfl, hG⟩; rw [hG]; clear hG
  have z : ((0 : Int) ≤ -1) = False := eq_false (by decide)
  simp only [go_sem, z]
  first | exact ⟨_, rfl⟩ | exact ⟨rfl, _, rfl⟩ | trace_state
end Go.Proofs
