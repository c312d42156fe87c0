/- Two values held against each other; operations on one or two values. -/
import Derived.Test.YtiadcabmonbgiaaEvG
namespace Go.Ev
variable {P : Program} {φ : Phi} {H : Heap} {w : World} {T : Tr AV} {a : Act}

noncomputable def kn (k : IntKind) : Nat := IntKind.rec (motive := fun _ => Nat) 0 1 2 3 4 5 6 7 k
theorem kn_inj {j k : IntKind} (h : Nat.beq (kn j) (kn k) = true) : j = k := by
  rw [Nat.beq_eq] at h
  cases j <;> cases k <;> first | rfl | (exact absurd h (by decide +kernel))

/-- a type whose values are one cell: a number, a text, a bool -/
inductive LK where
  | no | bool | int | str
def lkOf (P : Program) (t : TypeId) : LK := match P.underlying t with
  | some .bool => .bool
  | some (.int _) => .int
  | some .string => .str
  | _ => .no

section
variable {β : Type}
/-- two cells -/
noncomputable def eq1C (lk : LK) (v u : AV) (f : β) (c : Bool → β) : β :=
  LK.rec (motive := fun _ => β) f
    (asBoolC v f fun a => asBoolC u f fun b => fB (bif' a b (Bool.not b)) c)
    (asIntC v f fun k a => asIntC u f fun j b => bif' (Nat.beq (kn k) (kn j)) (eqI a b c) f)
    (asStrC v f fun a => asStrC u f fun b => fB (eqL a b) c) lk

theorem eq1C_sound {v u : AV} {v' u' : Value} (hv : VRel P φ v v') (hu : VRel P φ u u') (t : TypeId) (f : β) (c : Bool → β) :
    eq1C (lkOf P t) v u f c = f ∨ ∃ z, eq1C (lkOf P t) v u f c = c z ∧ v'.oneCell' = true ∧ u'.oneCell' = true ∧ (∀ d w, (Op.equalIn (d + 1) t v' u').run P w = .ok z w) := by
  unfold lkOf
  split
  · rename_i h
    cases hv <;> try exact .inl rfl
    rename_i b
    cases hu <;> try exact .inl rfl
    rename_i b'
    exact .inr ⟨_, fB_eq _ _, rfl, rfl, fun d w => by rw [run_equalIn_bool' w d t b b' h]; cases b <;> cases b' <;> rfl⟩
  · rename_i h
    cases hv <;> try exact .inl rfl
    rename_i k n
    cases hu <;> try exact .inl rfl
    rename_i k' n'
    show (bif' (Nat.beq (kn k) (kn k')) (eqI n n' c) f = f) ∨ _
    by_cases hk : Nat.beq (kn k) (kn k') = true
    case neg => left; rw [eq_false_of_ne_true hk]; rfl
    have := kn_inj hk; subst this
    right
    refine ⟨decide (n = n'), ?_, rfl, rfl, fun d w => ?_⟩
    · show bif' (Nat.beq (kn k) (kn k)) (eqI n n' c) f = _
      rw [hk, bif_true, eqI_eq]
    · rw [run_equalIn_int w d t k _ n n' h]
      congr 1
  · rename_i h
    cases hv <;> try exact .inl rfl
    rename_i l s hs
    cases hu <;> try exact .inl rfl
    rename_i l' s' hs'
    refine .inr ⟨_, fB_eq _ _, rfl, rfl, fun d w => ?_⟩
    rw [run_equalIn_string w d t s s' h]
    subst hs hs'
    rw [eqL_map, ByteArray.toList_eq, ByteArray.toList_eq]
  · exact .inl rfl

/-- rows of cells, by the kinds of their cells -/
noncomputable def eqCs (x : List AV) : List AV → List LK → β → (Bool → β) → β :=
  List.rec (motive := fun _ => List AV → List LK → β → (Bool → β) → β) (fun y _ f c => List.rec (motive := fun _ => β) (c true) (fun _ _ _ => f) y)
    (fun v _ ih y ks f c => List.rec (motive := fun _ => β) f (fun u r _ => List.rec (motive := fun _ => β) f (fun k ks _ => eq1C k v u f fun z => bif' z (ih r ks f c) (c false)) ks) y) x
end

/-- A struct of plain fields, one behind the other from o on. -/
def layAt (P : Program) (o : Nat) : List Field → Option Nat
  | [] => some o
  | f :: fs => match szT P f.type with
    | some n => if f.offset = o ∧ f.name ≠ "_" ∧ 0 < n then layAt P (o + n) fs else none
    | none => none

def plainT (P : Program) : Nat → TypeId → Bool
  | 0, _ => false
  | d + 1, t => match P.underlying t with
    | some .bool => szT P t == some 1
    | some (.int _) => szT P t == some 1
    | some .string => szT P t == some 1
    | some (.struct fs) => !P.stoodInHeld t && (layAt P 0 fs.toList).isSome && (layAt P 0 fs.toList == szT P t) && fs.toList.all fun f => plainT P d f.type
    | _ => false

/-- how a type's values are held against each other -/
inductive EK where
  | no | bool | ptr | slice | func | map | iface | plain (n : Nat)

def ekOf (P : Program) (t : TypeId) : EK := match P.underlying t with
  | some .bool => .bool
  | some (.pointer e) => if szT P e = some 0 ∨ szT P e = none then .no else .ptr
  | some (.slice _) => .slice
  | some (.func _ _ _) => .func
  | some (.map _ _) => .map
  | some (.interface _) => .iface
  | _ => .no

/-- what is in two interface values of one type -/
def dynT (P : Program) (t : TypeId) : Bool := ((P.info? t).map (·.comparable)).getD false

section
variable {β : Type}
noncomputable def eqVC (P : Program) (ek : EK) (lit : Bool) (v u : AV) (f : β) (c : Bool → β) : β :=
  EK.rec (motive := fun _ => β) f
    (eq1C .bool v u f c)
    (asPtrN v f (asPtrN u f (c true) fun _ _ => c false) fun k i => asPtrN u f (c false) fun j m => bif' (K.beq k j) (fB (Nat.beq i m) c) f)
    (asSliceC v f (asSliceC u f (c true) fun _ _ _ _ _ _ => c false) fun _ _ _ _ _ _ => asSliceC u f (c false) fun _ _ _ _ _ _ => f)
    (asFnN v f (fun _ _ _ => asFnN u f (fun _ _ _ => f) (c false)) (asFnN u f (fun _ _ _ => c false) (c true)))
    (asMapC v f (asMapC u f (c true) fun _ => c false) fun _ => asMapC u f (c false) fun _ => f)
    (asIfaceC v f (fun t x => asIfaceC u f (fun s y => bif' (Nat.beq t s) (bif' (dynT P t) (eq1C (lkOf P t) x y f c) f) (c false)) (c false)) (asIfaceC u f (fun _ _ => c false) (bif' lit (c true) f)))
    (fun _ => f) ek

def isK : Operand → Bool
  | .const _ => true
  | _ => false

theorem eqGuard_ok (op : BinOp) (t : TypeId) (x y : Operand) (v u : Value) (w : World) (h1 : v = .nilIface → u = .nilIface → (isK x || isK y) = true) (h2 : ∀ c d, v = .agg c → u ≠ .agg d) :
    (eqGuard op t x y v u).run P w = .ok () w := by
  unfold eqGuard
  cases op <;> first
    | rfl
    | (simp only [Bool.not_true, Bool.false_eq_true, if_false]
       split
       · have h := h1 rfl rfl
         cases x <;> cases y <;> first | rfl | (simp [isK] at h)
       · exact absurd rfl (h2 _ _ rfl)
       · rfl)

theorem equal_eq (t : TypeId) (v u : Value) : Op.equal t v u = Op.equalIn (9999 + 1) t v u := rfl

theorem binOp_eql {t : TypeId} {v u : Value} (hi : ∀ k n, v ≠ .int k n) (hs : ∀ s, v ≠ .string s) (hf : ∀ k n, v ≠ .float k n) (hc : ∀ k n m, v ≠ .complex k n m) {z : Bool} {w : World}
    (h : (Op.equalIn (9999 + 1) t v u).run P w = .ok z w) : (Go.binOp .eql t v u).run P w = .ok (.bool z) w ∧ (Go.binOp .neq t v u).run P w = .ok (.bool (!z)) w := by
  have h' : (Op.equal t v u).run P w = .ok z w := h
  cases v <;> first
    | exact absurd rfl (hi _ _)
    | exact absurd rfl (hs _)
    | exact absurd rfl (hf _ _)
    | exact absurd rfl (hc _ _ _)
    | (constructor <;> simp [Go.binOp, h'])

theorem typeInfo_of {t : TypeId} {i : TypeInfo} (h : P.info? t = some i) (w : World) : (typeInfo t).run P w = .ok i w := by simp [typeInfo, h]

/-! Two values of one type, at whatever depth is left. -/
section
variable {t : TypeId} {w : World} (d : Nat)
theorem eqn_ptr00 {e : TypeId} (ht : P.underlying t = some (.pointer e)) : (Op.equalIn (d + 1) t (.pointer none) (.pointer none)).run P w = .ok true w := by simp [Op.equalIn, run_underlying ht]
theorem eqn_ptr01 {e : TypeId} (ht : P.underlying t = some (.pointer e)) (b : Addr) : (Op.equalIn (d + 1) t (.pointer none) (.pointer (some b))).run P w = .ok false w := by simp [Op.equalIn, run_underlying ht]
theorem eqn_ptr10 {e : TypeId} (ht : P.underlying t = some (.pointer e)) (b : Addr) : (Op.equalIn (d + 1) t (.pointer (some b)) (.pointer none)).run P w = .ok false w := by simp [Op.equalIn, run_underlying ht]
theorem eqn_ptr11 {e : TypeId} (ht : P.underlying t = some (.pointer e)) {n : Nat} (hn : szT P e = some n) (h0 : n ≠ 0) (b i m : Nat) :
    (Op.equalIn (d + 1) t (.pointer (some ⟨b, i, none⟩)) (.pointer (some ⟨b, m, none⟩))).run P w = .ok (decide (i = m)) w := by
  simp only [Op.equalIn, Sem.run_bind, run_underlying ht, Result.andThen_ok, run_sizeOf' hn, Sem.run_ite, ne_eq, h0, not_false_eq_true, if_true, sameAddr, beq_self_eq_true, Sem.run_pure]
  congr 1
  rw [Bool.eq_iff_iff]; simp
theorem eqn_sl0 {e : TypeId} (ht : P.underlying t = some (.slice e)) (l m : Nat) (b : Option Addr) (l' m' : Nat) : (Op.equalIn (d + 1) t (.slice none l m) (.slice b l' m')).run P w = .ok b.isNone w := by simp [Op.equalIn, run_underlying ht]
theorem eqn_sl1 {e : TypeId} (ht : P.underlying t = some (.slice e)) (b : Addr) (l m l' m' : Nat) : (Op.equalIn (d + 1) t (.slice (some b) l m) (.slice none l' m')).run P w = .ok false w := by simp [Op.equalIn, run_underlying ht]
theorem eqn_fn00 {a b : Array TypeId} {c : Bool} (ht : P.underlying t = some (.func a b c)) : (Op.equalIn (d + 1) t .nilFunc .nilFunc).run P w = .ok true w := by simp [Op.equalIn, run_underlying ht]
theorem eqn_fn01 {a b : Array TypeId} {c : Bool} (ht : P.underlying t = some (.func a b c)) (f : Fn) (x y : Array Value) : (Op.equalIn (d + 1) t .nilFunc (.func f x y)).run P w = .ok false w := by simp [Op.equalIn, run_underlying ht]
theorem eqn_fn10 {a b : Array TypeId} {c : Bool} (ht : P.underlying t = some (.func a b c)) (f : Fn) (x y : Array Value) : (Op.equalIn (d + 1) t (.func f x y) .nilFunc).run P w = .ok false w := by simp [Op.equalIn, run_underlying ht]
theorem eqn_map0 {a b : TypeId} (ht : P.underlying t = some (.map a b)) (r : Option Nat) : (Op.equalIn (d + 1) t (.map none) (.map r)).run P w = .ok r.isNone w := by simp [Op.equalIn, run_underlying ht]
theorem eqn_map1 {a b : TypeId} (ht : P.underlying t = some (.map a b)) (r : Nat) : (Op.equalIn (d + 1) t (.map (some r)) (.map none)).run P w = .ok false w := by simp [Op.equalIn, run_underlying ht]
theorem eqn_if00 {a : Array (String × TypeId)} (ht : P.underlying t = some (.interface a)) : (Op.equalIn (d + 1) t .nilIface .nilIface).run P w = .ok true w := by simp [Op.equalIn, run_underlying ht]
theorem eqn_if01 {a : Array (String × TypeId)} (ht : P.underlying t = some (.interface a)) (s : TypeId) (v : Value) : (Op.equalIn (d + 1) t .nilIface (.iface s v)).run P w = .ok false w := by simp [Op.equalIn, run_underlying ht]
theorem eqn_if10 {a : Array (String × TypeId)} (ht : P.underlying t = some (.interface a)) (s : TypeId) (v : Value) : (Op.equalIn (d + 1) t (.iface s v) .nilIface).run P w = .ok false w := by simp [Op.equalIn, run_underlying ht]
theorem eqn_ifne {a : Array (String × TypeId)} (ht : P.underlying t = some (.interface a)) {s r : TypeId} (h : s ≠ r) (v u : Value) : (Op.equalIn (d + 1) t (.iface s v) (.iface r u)).run P w = .ok false w := by simp [Op.equalIn, run_underlying ht, h]
theorem eqn_ifeq {a : Array (String × TypeId)} (ht : P.underlying t = some (.interface a)) {s : TypeId} {i : TypeInfo} (hi : P.info? s = some i) (hc : i.comparable = true) (v u : Value) : (Op.equalIn (d + 1) t (.iface s v) (.iface s u)).run P w = (Op.equalIn d s v u).run P w := by
  simp only [Op.equalIn, Sem.run_bind, run_underlying ht, Result.andThen_ok, ne_eq, not_true_eq_false, if_false, typeInfo_of hi, hc, Bool.not_true, Bool.false_eq_true]
end

theorem eqVC_sound {t : TypeId} {v u : AV} {v' u' : Value} (hv : VRel P φ v v') (hu : VRel P φ u u') (x y : Operand) (op : BinOp) (lit : Bool) (hlit : lit = true → (isK x || isK y) = true) (f : β) (c : Bool → β) (w : World) :
    eqVC P (ekOf P t) lit v u f c = f ∨ ∃ z, eqVC P (ekOf P t) lit v u f c = c z ∧ (eqGuard op t x y v' u').run P w = .ok () w ∧ (Go.binOp .eql t v' u').run P w = .ok (.bool z) w ∧ (Go.binOp .neq t v' u').run P w = .ok (.bool (!z)) w := by
  unfold ekOf
  split <;> try exact .inl rfl
  · rename_i ht
    show eq1C .bool v u f c = f ∨ _
    have hl : lkOf P t = .bool := by simp [lkOf, ht]
    rcases eq1C_sound hv hu t f c with e | ⟨z, e, h1, h2, hz⟩ <;> rw [hl] at e
    · exact .inl e
    · cases hv <;> try exact .inl rfl
      cases hu <;> try exact .inl rfl
      exact .inr ⟨z, e, eqGuard_ok _ _ _ _ _ _ _ (fun h => by cases h) (fun _ _ h => by cases h), binOp_eql (fun _ _ h => by cases h) (fun _ h => by cases h) (fun _ _ h => by cases h) (fun _ _ _ h => by cases h) (hz 9999 w)⟩
  · rename_i e' ht
    split
    · exact .inl rfl
    rename_i hsz
    show (asPtrN v f (asPtrN u f (c true) fun _ _ => c false) fun k i => asPtrN u f (c false) fun j m => bif' (K.beq k j) (fB (Nat.beq i m) c) f) = f ∨ _
    have hg : ∀ p q, (eqGuard op t x y (.pointer p) (.pointer q)).run P w = .ok () w := fun p q => eqGuard_ok _ _ _ _ _ _ _ (fun h => by cases h) (fun _ _ h => by cases h)
    have key : ∀ p q z, (Op.equalIn (9999 + 1) t (.pointer p) (.pointer q)).run P w = .ok z w → (eqGuard op t x y (.pointer p) (.pointer q)).run P w = .ok () w ∧ (Go.binOp .eql t (.pointer p) (.pointer q)).run P w = .ok (.bool z) w ∧ (Go.binOp .neq t (.pointer p) (.pointer q)).run P w = .ok (.bool (!z)) w :=
      fun p q z h => ⟨hg p q, binOp_eql (fun _ _ h => by cases h) (fun _ h => by cases h) (fun _ _ h => by cases h) (fun _ _ _ h => by cases h) h⟩
    cases hv <;> try exact .inl rfl
    · cases hu <;> try exact .inl rfl
      · exact .inr ⟨true, rfl, key _ _ _ (by first | exact eqn_ptr00 9999 ht | exact eqn_ptr01 9999 ht _ | exact eqn_ptr10 9999 ht _)⟩
      · exact .inr ⟨false, rfl, key _ _ _ (by first | exact eqn_ptr00 9999 ht | exact eqn_ptr01 9999 ht _ | exact eqn_ptr10 9999 ht _)⟩
    · rename_i k i at1 hk
      cases hu <;> try exact .inl rfl
      · exact .inr ⟨false, rfl, key _ _ _ (by first | exact eqn_ptr00 9999 ht | exact eqn_ptr01 9999 ht _ | exact eqn_ptr10 9999 ht _)⟩
      · rename_i j m at2 hj
        show bif' (K.beq k j) (fB (Nat.beq i m) c) f = f ∨ _
        by_cases hkj : K.beq k j = true
        case neg => left; rw [eq_false_of_ne_true hkj]; rfl
        right
        have := (K.beq_iff k j).1 hkj
        subst this
        rw [hk] at hj; cases hj
        refine ⟨Nat.beq i m, ?_, key _ _ _ ?_⟩
        · show bif' (K.beq k k) (fB (Nat.beq i m) c) f = _; rw [hkj, bif_true, fB_eq]
        · have hn : ∃ n, szT P e' = some n ∧ n ≠ 0 := by
            cases h : szT P e' with
            | none => exact absurd (.inr h) hsz
            | some n => exact ⟨n, rfl, fun h0 => hsz (.inl (by rw [h, h0]))⟩
          obtain ⟨n, hn1, hn2⟩ := hn
          rw [eqn_ptr11 9999 ht hn1 hn2]
          congr 1
          rw [Bool.eq_iff_iff]; simp
  · rename_i e' ht
    show (asSliceC v f (asSliceC u f (c true) fun _ _ _ _ _ _ => c false) fun _ _ _ _ _ _ => asSliceC u f (c false) fun _ _ _ _ _ _ => f) = f ∨ _
    have key : ∀ p l m q l' m' z, (Op.equalIn (9999 + 1) t (.slice p l m) (.slice q l' m')).run P w = .ok z w → (eqGuard op t x y (.slice p l m) (.slice q l' m')).run P w = .ok () w ∧ (Go.binOp .eql t (.slice p l m) (.slice q l' m')).run P w = .ok (.bool z) w ∧ (Go.binOp .neq t (.slice p l m) (.slice q l' m')).run P w = .ok (.bool (!z)) w :=
      fun p l m q l' m' z h => ⟨eqGuard_ok _ _ _ _ _ _ _ (fun h => by cases h) (fun _ _ h => by cases h), binOp_eql (fun _ _ h => by cases h) (fun _ h => by cases h) (fun _ _ h => by cases h) (fun _ _ _ h => by cases h) h⟩
    cases hv <;> try exact .inl rfl
    · cases hu <;> try exact .inl rfl
      · exact .inr ⟨true, rfl, key _ _ _ _ _ _ _ (by first | exact eqn_sl0 9999 ht _ _ _ _ _ | exact eqn_sl1 9999 ht _ _ _ _ _)⟩
      · exact .inr ⟨false, rfl, key _ _ _ _ _ _ _ (by first | exact eqn_sl0 9999 ht _ _ _ _ _ | exact eqn_sl1 9999 ht _ _ _ _ _)⟩
      · exact .inr ⟨false, rfl, key _ _ _ _ _ _ _ (by first | exact eqn_sl0 9999 ht _ _ _ _ _ | exact eqn_sl1 9999 ht _ _ _ _ _)⟩
    · cases hu <;> try exact .inl rfl
      exact .inr ⟨false, rfl, key _ _ _ _ _ _ _ (by first | exact eqn_sl0 9999 ht _ _ _ _ _ | exact eqn_sl1 9999 ht _ _ _ _ _)⟩
    · cases hu <;> try exact .inl rfl
      exact .inr ⟨false, rfl, key _ _ _ _ _ _ _ (by first | exact eqn_sl0 9999 ht _ _ _ _ _ | exact eqn_sl1 9999 ht _ _ _ _ _)⟩
  · rename_i ht
    show (asFnN v f (fun _ _ _ => asFnN u f (fun _ _ _ => f) (c false)) (asFnN u f (fun _ _ _ => c false) (c true))) = f ∨ _
    cases hv <;> try exact .inl rfl
    · cases hu <;> try exact .inl rfl
      exact .inr ⟨false, rfl, eqGuard_ok _ _ _ _ _ _ _ (fun h => by cases h) (fun _ _ h => by cases h), binOp_eql (fun _ _ h => by cases h) (fun _ h => by cases h) (fun _ _ h => by cases h) (fun _ _ _ h => by cases h) (by first | exact eqn_fn00 9999 ht | exact eqn_fn01 9999 ht _ _ _ | exact eqn_fn10 9999 ht _ _ _)⟩
    · cases hu <;> try exact .inl rfl
      · exact .inr ⟨false, rfl, eqGuard_ok _ _ _ _ _ _ _ (fun h => by cases h) (fun _ _ h => by cases h), binOp_eql (fun _ _ h => by cases h) (fun _ h => by cases h) (fun _ _ h => by cases h) (fun _ _ _ h => by cases h) (by first | exact eqn_fn00 9999 ht | exact eqn_fn01 9999 ht _ _ _ | exact eqn_fn10 9999 ht _ _ _)⟩
      · exact .inr ⟨true, rfl, eqGuard_ok _ _ _ _ _ _ _ (fun h => by cases h) (fun _ _ h => by cases h), binOp_eql (fun _ _ h => by cases h) (fun _ h => by cases h) (fun _ _ h => by cases h) (fun _ _ _ h => by cases h) (by first | exact eqn_fn00 9999 ht | exact eqn_fn01 9999 ht _ _ _ | exact eqn_fn10 9999 ht _ _ _)⟩
  · rename_i ht
    show (asMapC v f (asMapC u f (c true) fun _ => c false) fun _ => asMapC u f (c false) fun _ => f) = f ∨ _
    cases hv <;> try exact .inl rfl
    · cases hu <;> try exact .inl rfl
      · exact .inr ⟨true, rfl, eqGuard_ok _ _ _ _ _ _ _ (fun h => by cases h) (fun _ _ h => by cases h), binOp_eql (fun _ _ h => by cases h) (fun _ h => by cases h) (fun _ _ h => by cases h) (fun _ _ _ h => by cases h) (by first | exact eqn_map0 9999 ht _ | exact eqn_map1 9999 ht _)⟩
      · exact .inr ⟨false, rfl, eqGuard_ok _ _ _ _ _ _ _ (fun h => by cases h) (fun _ _ h => by cases h), binOp_eql (fun _ _ h => by cases h) (fun _ h => by cases h) (fun _ _ h => by cases h) (fun _ _ _ h => by cases h) (by first | exact eqn_map0 9999 ht _ | exact eqn_map1 9999 ht _)⟩
    · cases hu <;> try exact .inl rfl
      exact .inr ⟨false, rfl, eqGuard_ok _ _ _ _ _ _ _ (fun h => by cases h) (fun _ _ h => by cases h), binOp_eql (fun _ _ h => by cases h) (fun _ h => by cases h) (fun _ _ h => by cases h) (fun _ _ _ h => by cases h) (by first | exact eqn_map0 9999 ht _ | exact eqn_map1 9999 ht _)⟩
  · rename_i ms ht
    show (asIfaceC v f (fun t x => asIfaceC u f (fun s y => bif' (Nat.beq t s) (bif' (dynT P t) (eq1C (lkOf P t) x y f c) f) (c false)) (c false)) (asIfaceC u f (fun _ _ => c false) (bif' lit (c true) f))) = f ∨ _
    cases hv <;> try exact .inl rfl
    · rename_i t1 x1 x1' h1
      cases hu <;> try exact .inl rfl
      · rename_i t2 x2 x2' h2
        show bif' (Nat.beq t1 t2) (bif' (dynT P t1) (eq1C (lkOf P t1) x1 x2 f c) f) (c false) = f ∨ _
        by_cases htt : Nat.beq t1 t2 = true
        · have := Nat.eq_of_beq_eq_true htt; subst this
          by_cases hd : dynT P t1 = true
          case neg => left; rw [htt, eq_false_of_ne_true hd]; rfl
          rcases eq1C_sound h1 h2 t1 f c with e | ⟨z, e, _, _, hz⟩
          · left; rw [htt, hd, bif_true, bif_true, e]
          · cases hi : P.info? t1 with
            | none => simp [dynT, hi] at hd
            | some info =>
              have hcmp : info.comparable = true := by simpa [dynT, hi] using hd
              right
              refine ⟨z, ?_, eqGuard_ok _ _ _ _ _ _ _ (fun h => by cases h) (fun _ _ h => by cases h), binOp_eql (fun _ _ h => by cases h) (fun _ h => by cases h) (fun _ _ h => by cases h) (fun _ _ _ h => by cases h) ?_⟩
              · show bif' (Nat.beq t1 t1) (bif' (dynT P t1) (eq1C (lkOf P t1) x1 x2 f c) f) (c false) = c z
                rw [htt, hd, bif_true, bif_true, e]
              · have := hz 9998 w
                rw [eqn_ifeq 9999 ht hi hcmp]
                exact this
        · right
          have hne : t1 ≠ t2 := fun h => htt (by rw [h]; exact Nat.beq_refl t2)
          refine ⟨false, ?_, eqGuard_ok _ _ _ _ _ _ _ (fun h => by cases h) (fun _ _ h => by cases h), binOp_eql (fun _ _ h => by cases h) (fun _ h => by cases h) (fun _ _ h => by cases h) (fun _ _ _ h => by cases h) ?_⟩
          · show bif' (Nat.beq t1 t2) (bif' (dynT P t1) (eq1C (lkOf P t1) x1 x2 f c) f) (c false) = _
            rw [eq_false_of_ne_true htt]; rfl
          · exact eqn_ifne 9999 ht hne _ _
      · exact .inr ⟨false, rfl, eqGuard_ok _ _ _ _ _ _ _ (fun h => by cases h) (fun _ _ h => by cases h), binOp_eql (fun _ _ h => by cases h) (fun _ h => by cases h) (fun _ _ h => by cases h) (fun _ _ _ h => by cases h) (by first | exact eqn_if00 9999 ht | exact eqn_if01 9999 ht _ _ | exact eqn_if10 9999 ht _ _)⟩
    · cases hu <;> try exact .inl rfl
      · exact .inr ⟨false, rfl, eqGuard_ok _ _ _ _ _ _ _ (fun _ h => by cases h) (fun _ _ h => by cases h), binOp_eql (fun _ _ h => by cases h) (fun _ h => by cases h) (fun _ _ h => by cases h) (fun _ _ _ h => by cases h) (by first | exact eqn_if00 9999 ht | exact eqn_if01 9999 ht _ _ | exact eqn_if10 9999 ht _ _)⟩
      · cases lit
        · exact .inl rfl
        · exact .inr ⟨true, rfl, eqGuard_ok _ _ _ _ _ _ _ (fun _ _ => hlit rfl) (fun _ _ h => by cases h), binOp_eql (fun _ _ h => by cases h) (fun _ h => by cases h) (fun _ _ h => by cases h) (fun _ _ _ h => by cases h) (by first | exact eqn_if00 9999 ht | exact eqn_if01 9999 ht _ _ | exact eqn_if10 9999 ht _ _)⟩
end
end Go.Ev
