/- part. -/
import Derived.Test.YtglpihajimhekaaGreatDoorZ4
import Derived.Laws.StructEq
namespace Go.Ev
noncomputable def asBoolC {β : Type} (v : AV) (f : β) (c : Bool → β) : β :=
 AV.rec (motive_1 := fun _ => β) (motive_2 := fun _ => Unit) c (fun _ _ => f) (fun _ => f) f (fun _ _ => f) f (fun _ _ _ _ _ _ => f) (fun _ _ _ _ _ => f) f (fun _ _ _ => f) f (fun _ _ => f) (fun _ _ => f) f (fun _ => f) (fun _ => f) f (fun _ => f) () (fun _ _ _ _ => ()) v
noncomputable def asIntC {β : Type} (v : AV) (f : β) (c : IntKind → Int → β) : β :=
 AV.rec (motive_1 := fun _ => β) (motive_2 := fun _ => Unit) (fun _ => f) c (fun _ => f) f (fun _ _ => f) f (fun _ _ _ _ _ _ => f) (fun _ _ _ _ _ => f) f (fun _ _ _ => f) f (fun _ _ => f) (fun _ _ => f) f (fun _ => f) (fun _ => f) f (fun _ => f) () (fun _ _ _ _ => ()) v
noncomputable def asStrC {β : Type} (v : AV) (f : β) (c : List Nat → β) : β :=
 AV.rec (motive_1 := fun _ => β) (motive_2 := fun _ => Unit) (fun _ => f) (fun _ _ => f) c f (fun _ _ => f) f (fun _ _ _ _ _ _ => f) (fun _ _ _ _ _ => f) f (fun _ _ _ => f) f (fun _ _ => f) (fun _ _ => f) f (fun _ => f) (fun _ => f) f (fun _ => f) () (fun _ _ _ _ => ()) v
noncomputable def asPtrC {β : Type} (v : AV) (f : β) (c : K → Nat → β) : β :=
 AV.rec (motive_1 := fun _ => β) (motive_2 := fun _ => Unit) (fun _ => f) (fun _ _ => f) (fun _ => f) f c f (fun _ _ _ _ _ _ => f) (fun _ _ _ _ _ => f) f (fun _ _ _ => f) f (fun _ _ => f) (fun _ _ => f) f (fun _ => f) (fun _ => f) f (fun _ => f) () (fun _ _ _ _ => ()) v
noncomputable def asSliceC {β : Type} (v : AV) (f : β) (cnils : β) (cslice : K → Nat → Nat → Nat → Bool → Nat → β) : β :=
 AV.rec (motive_1 := fun _ => β) (motive_2 := fun _ => Unit) (fun _ => f) (fun _ _ => f) (fun _ => f) f (fun _ _ => f) cnils cslice (fun _ _ _ _ _ => f) f (fun _ _ _ => f) f (fun _ _ => f) (fun _ _ => f) f (fun _ => f) (fun _ => f) f (fun _ => f) () (fun _ _ _ _ => ()) v
noncomputable def asAggC {β : Type} (v : AV) (f : β) (c : List AV → β) : β :=
 AV.rec (motive_1 := fun _ => β) (motive_2 := fun _ => Unit) (fun _ => f) (fun _ _ => f) (fun _ => f) f (fun _ _ => f) f (fun _ _ _ _ _ _ => f) (fun _ _ _ _ _ => f) f (fun _ _ _ => f) f (fun x0 _ => c x0) (fun _ _ => f) f (fun _ => f) (fun _ => f) f (fun _ => f) () (fun _ _ _ _ => ()) v
noncomputable def asTupC {β : Type} (v : AV) (f : β) (c : List AV → β) : β :=
 AV.rec (motive_1 := fun _ => β) (motive_2 := fun _ => Unit) (fun _ => f) (fun _ _ => f) (fun _ => f) f (fun _ _ => f) f (fun _ _ _ _ _ _ => f) (fun _ _ _ _ _ => f) f (fun _ _ _ => f) f (fun _ _ => f) (fun x0 _ => c x0) f (fun _ => f) (fun _ => f) f (fun _ => f) () (fun _ _ _ _ => ()) v
noncomputable def asFnC {β : Type} (v : AV) (f : β) (c : Fn → List AV → List AV → β) : β :=
 AV.rec (motive_1 := fun _ => β) (motive_2 := fun _ => Unit) (fun _ => f) (fun _ _ => f) (fun _ => f) f (fun _ _ => f) f (fun _ _ _ _ _ _ => f) (fun x0 x1 x2 _ _ => c x0 x1 x2) f (fun _ _ _ => f) f (fun _ _ => f) (fun _ _ => f) f (fun _ => f) (fun _ => f) f (fun _ => f) () (fun _ _ _ _ => ()) v
noncomputable def asIfaceC {β : Type} (v : AV) (f : β) (ciface : TypeId → AV → β) (cnili : β) : β :=
 AV.rec (motive_1 := fun _ => β) (motive_2 := fun _ => Unit) (fun _ => f) (fun _ _ => f) (fun _ => f) f (fun _ _ => f) f (fun _ _ _ _ _ _ => f) (fun _ _ _ _ _ => f) f (fun x0 x1 _ => ciface x0 x1) cnili (fun _ _ => f) (fun _ _ => f) f (fun _ => f) (fun _ => f) f (fun _ => f) () (fun _ _ _ _ => ()) v
noncomputable def asMapC {β : Type} (v : AV) (f : β) (cnilm : β) (cmap : K → β) : β :=
 AV.rec (motive_1 := fun _ => β) (motive_2 := fun _ => Unit) (fun _ => f) (fun _ _ => f) (fun _ => f) f (fun _ _ => f) f (fun _ _ _ _ _ _ => f) (fun _ _ _ _ _ => f) f (fun _ _ _ => f) f (fun _ _ => f) (fun _ _ => f) cnilm cmap (fun _ => f) f (fun _ => f) () (fun _ _ _ _ => ()) v
noncomputable def asTypC {β : Type} (v : AV) (f : β) (c : TypeId → β) : β :=
 AV.rec (motive_1 := fun _ => β) (motive_2 := fun _ => Unit) (fun _ => f) (fun _ _ => f) (fun _ => f) f (fun _ _ => f) f (fun _ _ _ _ _ _ => f) (fun _ _ _ _ _ => f) f (fun _ _ _ => f) f (fun _ _ => f) (fun _ _ => f) f (fun _ => f) c f (fun _ => f) () (fun _ _ _ _ => ()) v
noncomputable def asPtrN {β : Type} (v : AV) (f : β) (cnilp : β) (cptr : K → Nat → β) : β :=
 AV.rec (motive_1 := fun _ => β) (motive_2 := fun _ => Unit) (fun _ => f) (fun _ _ => f) (fun _ => f) cnilp cptr f (fun _ _ _ _ _ _ => f) (fun _ _ _ _ _ => f) f (fun _ _ _ => f) f (fun _ _ => f) (fun _ _ => f) f (fun _ => f) (fun _ => f) f (fun _ => f) () (fun _ _ _ _ => ()) v
noncomputable def asFnN {β : Type} (v : AV) (f : β) (cfn : Fn → List AV → List AV → β) (cnilf : β) : β :=
 AV.rec (motive_1 := fun _ => β) (motive_2 := fun _ => Unit) (fun _ => f) (fun _ _ => f) (fun _ => f) f (fun _ _ => f) f (fun _ _ _ _ _ _ => f) (fun x0 x1 x2 _ _ => cfn x0 x1 x2) cnilf (fun _ _ _ => f) f (fun _ _ => f) (fun _ _ => f) f (fun _ => f) (fun _ => f) f (fun _ => f) () (fun _ _ _ _ => ()) v
noncomputable def asGeqC {β : Type} (v : AV) (f : β) (c : Nat → β) : β :=
 AV.rec (motive_1 := fun _ => β) (motive_2 := fun _ => Unit) (fun _ => f) (fun _ _ => f) (fun _ => f) f (fun _ _ => f) f (fun _ _ _ _ _ _ => f) (fun _ _ _ _ _ => f) f (fun _ _ _ => f) f (fun _ _ => f) (fun _ _ => f) f (fun _ => f) (fun _ => f) f c () (fun _ _ _ _ => ()) v
def ofScalar : Value → Option AV
 | .bool b => some (.bool b)
 | .int k n => some (.int k n)
 | .string s => some (.str (s.data.toList.map (·.toNat)))
 | .pointer none => some .nilp
 | .slice none l c => if l = 0 ∧ c = 0 then some .nils else none
 | .nilFunc => some .nilf
 | .nilIface => some .nili
 | .map none => some .nilm
 | .func (.func f) a b => if a.toList.isEmpty ∧ b.toList.isEmpty then some (.fn (.func f) [] []) else none
 | _ => none
def ofScalars : List Value → Option (List AV)
 | [] => some []
 | v :: l => (ofScalar v).bind fun x => (ofScalars l).map fun r => x :: r
def ofValue : Value → Option AV
 | .agg c => (ofScalars c.toList).map .agg
 | .tuple c => if c.toList.isEmpty then some (.tup []) else none
 | .iface t (.agg c) => (ofScalars c.toList).map fun l => .iface t (.agg l)
 | .iface t v => (ofScalar v).map (.iface t)
 | v => ofScalar v
variable {P : Program} {φ : Phi}
theorem ofScalar_sound {v : Value} {x : AV} (h : ofScalar v = some x) : VRel P φ x v ∧ v.oneCell' = true := by
  unfold ofScalar at h
  split at h <;> first
    | (cases h; exact ⟨by constructor; try rfl, rfl⟩)
    | (split at h
       · rename_i h0
         cases h
         obtain ⟨h1, h2⟩ := h0
         first
           | (subst h1 h2; exact ⟨.nils, rfl⟩)
           | (refine ⟨.fn _ _ _ _ _ ?_ ?_, rfl⟩
              · rw [List.isEmpty_iff.1 h1]; exact .nil
              · rw [List.isEmpty_iff.1 h2]; exact .nil)
       · cases h)
    | cases h
theorem ofScalars_sound : ∀ {l : List Value} {x : List AV}, ofScalars l = some x → VRels P φ x l ∧ ∀ v ∈ l, v.oneCell' = true
 | [], _, h => by cases h; exact ⟨.nil, by simp⟩
 | v :: l, x, h => by
  simp only [ofScalars] at h
  cases h1 : ofScalar v with
  | none => simp [h1] at h
  | some y =>
   cases h2 : ofScalars l with
   | none => simp [h1, h2] at h
   | some r =>
    simp [h1, h2] at h
    subst h
    have a := ofScalar_sound (P := P) (φ := φ) h1
    have b := ofScalars_sound h2
    exact ⟨.cons _ _ _ _ a.1 b.1, by simpa using ⟨a.2, b.2⟩⟩
theorem ofValue_sound {v : Value} {x : AV} (h : ofValue v = some x) : VRel P φ x v := by
 unfold ofValue at h
 split at h
 ·cases h1 : ofScalars _ with
  | none => rw [h1] at h; cases h
  | some r => rw [h1] at h; cases h; have := ofScalars_sound (P := P) (φ := φ) h1; exact .agg _ _ this.1 this.2
 ·split at h
  ·rename_i c h0; cases h; refine .tup _ _ ?_; rw [List.isEmpty_iff.1 h0]; exact .nil
  ·cases h
 ·cases h1 : ofScalars _ with
  | none => rw [h1] at h; cases h
  | some r => rw [h1] at h; cases h; have := ofScalars_sound (P := P) (φ := φ) h1; exact .iface _ _ _ (.agg _ _ this.1 this.2)
 ·cases h1 : ofScalar _ with
  | none => rw [h1] at h; cases h
  | some r => rw [h1] at h; cases h; exact .iface _ _ _ (ofScalar_sound h1).1
 ·exact (ofScalar_sound h).1
inductive X where
 | t (k : K)
 | c (v : AV)
instance : Coe K X := ⟨X.t⟩
noncomputable def cX : Operand → Option X
 | .tmp t => some (.t (keyOf t))
 | .const v => (ofValue v).map .c
 | .global _ => none
 | .func f => some (.c (.fn (.func f) [] []))
noncomputable def cXs : List Operand → Option (List X)
 | [] => some []
 | x :: l => (cX x).bind fun y => (cXs l).map fun r => y :: r
noncomputable def evX (T : Tr AV) (x : X) : Option AV := X.rec (motive := fun _ => Option AV) (fun k => T.get k) (fun v => some v) x
noncomputable def withX {β : Type} (T : Tr AV) (x : X) (f : β) (c : AV → β) : β := Option.rec (motive := fun _ => β) f (fun v => c v) (evX T x)
noncomputable def withXs {β : Type} (T : Tr AV) (l : List X) (f : β) : (List AV → β) → β :=
 List.rec (motive := fun _ => (List AV → β) → β) (fun c => c []) (fun x _ ih c => withX T x f fun v => ih fun r => c (v :: r)) l
theorem withX_eq {β : Type} (T : Tr AV) (x : X) (f : β) (c : AV → β) : (evX T x = none ∧ withX T x f c = f) ∨ ∃ v, evX T x = some v ∧ withX T x f c = c v := by
 unfold withX
 cases h : evX T x with
 | none => exact .inl ⟨rfl, rfl⟩
 | some v => exact .inr ⟨v, rfl, rfl⟩
def TRelAt (P : Program) (φ : Phi) (T : Tr AV) (tmps : Array Value) (ts : Nat → Prop) : Prop :=
 ∀ t v, ts t → T.get (keyOf t) = some v → ∃ v', tmps[t]? = some v' ∧ VRel P φ v v'
def tmpsOf (l : List Operand) : List Nat := l.filterMap fun | .tmp t => some t | _ => none
theorem evX_sound {T : Tr AV} {a : Act} {o : Operand} {x : X} {v : AV} (ht : TRelAt P φ T a.tmps (· ∈ tmpsOf [o])) (hc : cX o = some x) (h : evX T x = some v) : VRel P φ v (a.eval o) := by
 cases o with
 | tmp t =>
  simp only [cX, Option.some.injEq] at hc; subst hc
  obtain ⟨v', h1, h2⟩ := ht t v (by simp [tmpsOf]) h
  have : a.eval (.tmp t) = v' := by simp only [Act.eval, Array.getD_eq_getD_getElem?, h1, Option.getD_some]
  rw [this]; exact h2
 | const c =>
  simp only [cX] at hc
  cases h1 : ofValue c with
  | none => rw [h1] at hc; cases hc
  | some r => rw [h1] at hc; cases hc; cases h; exact ofValue_sound h1
 | global g => cases hc
 | func f =>
  simp only [cX, Option.some.injEq] at hc; subst hc
  cases h
  exact .fn _ _ _ _ _ .nil .nil
theorem TRelAt.sub {T : Tr AV} {tmps : Array Value} {p q : Nat → Prop} (h : TRelAt P φ T tmps q) (hs : ∀ t, p t → q t) : TRelAt P φ T tmps p := fun t v hp => h t v (hs t hp)
theorem withXs_sound {β : Type} {T : Tr AV} {a : Act} (f : β) : ∀ {l : List Operand} {xs : List X} (c : List AV → β), TRelAt P φ T a.tmps (· ∈ tmpsOf l) → cXs l = some xs →
  withXs T xs f c = f ∨ ∃ vs, withXs T xs f c = c vs ∧ VRels P φ vs (l.map a.eval)
 | [], xs, c, _, h => by cases h; exact .inr ⟨[], rfl, .nil⟩
 | o :: l, xs, c, ht, h => by
  simp only [cXs] at h
  cases h1 : cX o with
  | none => simp [h1] at h
  | some x =>
   cases h2 : cXs l with
   | none => simp [h1, h2] at h
   | some r =>
    simp [h1, h2] at h
    subst h
    show withX T x f (fun v => withXs T r f fun s => c (v :: s)) = f ∨ _
    rcases withX_eq T x f (fun v => withXs T r f fun s => c (v :: s)) with ⟨_, e⟩ | ⟨v, hv, e⟩
    ·exact .inl e
    ·have hv' := evX_sound (P := P) (φ := φ) (ht.sub fun t ht => by simp only [tmpsOf, List.filterMap_cons, List.filterMap_nil] at ht ⊢; split at ht <;> simp_all) h1 hv
     rcases withXs_sound f (fun s => c (v :: s)) (ht.sub fun t ht => by simp only [tmpsOf, List.filterMap_cons] at ht ⊢; split <;> simp_all) h2 with e2 | ⟨vs, e2, hs⟩
     ·exact .inl (e.trans e2)
     ·exact .inr ⟨v :: vs, e.trans e2, .cons _ _ _ _ hv' hs⟩
inductive R1 where
 | fail
 | val (v : AV) (H : Heap)
 | call (f : FuncId) (args : List AV)
inductive Ran (P : Program) (φ : Phi) (H : Heap) (w : World) (s : Sem Next) : R1 → Prop
 | fail : Ran P φ H w s .fail
 | val (v : AV) (G : Heap) (nx : Next) (v' : Value) (u : World) (ψ : Phi) (hr : s.run P w = .ok nx u) (hn : nx = .value v' ∨ (nx = .skip ∧ v' = undef))
   (hw : WRel P ψ G u) (he : Ext φ H w ψ G u) (hv : VRel P ψ v v') : Ran P φ H w s (.val v G)
 | call (f : FuncId) (args : List AV) (args' : Array Value) (hr : s.run P w = .ok (.enter f args') w) (ha : VRels P φ args args'.toList) : Ran P φ H w s (.call f args)
theorem Ran.pure {H : Heap} {w : World} {s : Sem Next} {v : AV} {v' : Value} (hw : WRel P φ H w) (hr : s.run P w = .ok (.value v') w) (hv : VRel P φ v v') : Ran P φ H w s (.val v H) :=
 .val v H _ v' w φ hr (.inl rfl) hw (Ext.refl _ _ _) hv
inductive Ran0 (P : Program) (φ : Phi) (H : Heap) (w : World) (s : Sem Next) : R1 → Prop
 | fail : Ran0 P φ H w s .fail
 | pure {v : AV} {v' : Value} (hw : WRel P φ H w) (hr : s.run P w = .ok (.value v') w) (hv : VRel P φ v v') : Ran0 P φ H w s (.val v H)
theorem Ran0.up {H : Heap} {w : World} {s : Sem Next} {r : R1} (h : Ran0 P φ H w s r) : Ran P φ H w s r := by
 cases h with
 | fail => exact .fail
 | pure hw hr hv => exact .pure hw hr hv
theorem run_v {w u : World} {s : Sem Value} {v : Value} (h : s.run P w = .ok v u) : (do return Next.value (← s) : Sem Next).run P w = .ok (.value v) u := by
 simp only [Sem.run_bind, h, Result.andThen_ok]; rfl
theorem run_u {w u : World} {s : Sem Unit} (h : s.run P w = .ok () u) : (do s; return Next.skip : Sem Next).run P w = .ok .skip u := by
 simp only [Sem.run_bind, h, Result.andThen_ok]; rfl
end Go.Ev
namespace Go.Ev
variable {P : Program} {φ : Phi} {H : Heap} {w : World} {T : Tr AV} {a : Act}
def szT (P : Program) (t : TypeId) : Option Nat := (P.info? t).map (·.size)
theorem run_sizeOf' {t : TypeId} {n : Nat} (h : szT P t = some n) (w : World) : (sizeOf t).run P w = .ok n w := by
 unfold szT at h
 cases hi : P.info? t with
 | none => rw [hi] at h; cases h
 | some i => rw [hi] at h; cases h; simp [sizeOf, typeInfo, hi]
def isArr1 (P : Program) (t : TypeId) : Bool := match P.underlying t with
 | some (.array _ e) => szT P e == some 1
 | _ => false
def aggT (P : Program) (t : TypeId) : Option Bool := match P.underlying t with
 | some (.struct _) => some true
 | some (.array _ _) => some true
 | some _ => some false
 | none => none
theorem run_isAgg' {t : TypeId} {b : Bool} (h : aggT P t = some b) (w : World) : (isAgg t).run P w = .ok b w := by
 unfold aggT at h
 split at h <;> cases h <;> simp [isAgg, run_underlying (by assumption)]
noncomputable def shapeC {β : Type} (one : Bool) (l : List AV) (f : β) (c : Nat → List (List AV) → β) : β :=
 bif' one (c 1 (sing l)) (fN l.length fun n => bif' (Nat.beq n 0) f (c n [l]))
theorem shapeC_eq {β : Type} (one : Bool) (l : List AV) (f : β) (c : Nat → List (List AV) → β) :
  shapeC one l f c = f ∨ ∃ esz rows, shapeC one l f c = c esz rows ∧ 0 < esz ∧ (∀ r ∈ rows, r.length = esz) ∧ rows.flatten = l := by
 unfold shapeC
 cases one
 ·rw [bif_false, fN_eq]
  by_cases h : l.length = 0
  ·left; simp [h, bif_true]
  ·right; exact ⟨l.length, [l], by rw [bif_eq, if_neg (by simpa using h)], by omega, by simp, by simp⟩
 ·right; exact ⟨1, sing l, rfl, by omega, by simp [sing_eq], flatten_sing l⟩
def shp (n : Option Nat) (esz : Nat) (k : K) : AV := match n with
 | none => .ptr k 0
 | some n => .slice k 0 n esz true n
def shp' (n : Option Nat) (b : Nat) : Value := match n with
 | none => .pointer (some ⟨b, 0, none⟩)
 | some n => .slice (some ⟨b, 0, none⟩) n n
structure Lays (P : Program) (φ : Phi) (w : World) (s : Sem Next) (n : Option Nat) (esz : Nat) (rows : List (List AV)) (vs : List Value) (e : TypeId) : Prop where
 pos : 0 < esz
 len : ∀ r ∈ rows, r.length = esz
 rel : VRels P φ rows.flatten vs
 one : ∀ v ∈ vs, v.oneCell' = true
 many : ∀ m, n = some m → m * esz ≤ vs.length
 run : s.run P w = .ok (.value (shp' n w.heap.size)) { w with heap := w.heap.push (.cells vs.toArray e) }
inductive RanA (P : Program) (φ : Phi) (H : Heap) (w : World) (s : Sem Next) : R1 → Prop
 | fail : RanA P φ H w s .fail
 | new (n : Option Nat) (esz : Nat) (rows : List (List AV)) (vs : List Value) (e : TypeId) (h : Lays P φ w s n esz rows vs e) : RanA P φ H w s (.val (shp n esz H.nx) (H.add (.row true esz rows)))
 | map (h : s.run P w = .ok (.value (.map (some w.heap.size))) { w with heap := w.heap.push (.map #[] 0) }) : RanA P φ H w s (.val (.map H.nx) (H.add (.map [])))
theorem shp_rel {ψ : Phi} {n : Option Nat} {esz : Nat} {k : K} {b l : Nat} (hk : ψ k = some ⟨b, 0, l⟩) (hm : ∀ m, n = some m → m * esz ≤ l) : VRel P ψ (shp n esz k) (shp' n b) := by
 cases n with
 | none => exact .ptr k 0 ⟨b, 0, l⟩ hk
 | some n => exact .slice k 0 n esz true n ⟨b, 0, l⟩ n hk (fun _ => rfl) (Nat.le_refl _) (Nat.le_refl _) (by have := hm n rfl; simp only; omega)
theorem RanA.up (hw : WRel P φ H w) {s : Sem Next} {r : R1} (h : RanA P φ H w s r) : Ran P φ H w s r := by
 cases h with
 | fail => exact .fail
 | new n esz rows vs e h =>
  have := newRow_sound (P := P) hw h.pos h.len (vs := vs) (post := []) h.rel h.one (by simp) e 0 0 (.inl (Nat.le_refl _))
  rw [List.append_nil] at this
  exact .val _ _ _ _ _ _ h.run (.inl rfl) this.1 this.2 (shp_rel (Phi.put_same _ _ _) h.many)
 | map h =>
  have := add_sound hw (.map []) (.map #[] 0) 0 ⟨#[], 0, by simp, .nil⟩
  exact .val _ _ _ _ _ _ h (.inl rfl) this.1 this.2 (.map _ _ (Phi.put_same _ _ _))
noncomputable def newC (one : Bool) (l : List AV) (H : Heap) : R1 :=
 shapeC one l .fail fun esz rows => H.addC (.row true esz rows) fun k G => .val (.ptr k 0) G
theorem newC_sound (one : Bool) {l : List AV} {vs : List Value} (hv : VRels P φ l vs) (h1 : ∀ v ∈ vs, v.oneCell' = true) (e : TypeId) (s : Sem Next)
  (hs : s.run P w = .ok (.value (.pointer (some ⟨w.heap.size, 0, none⟩))) { w with heap := w.heap.push (.cells vs.toArray e) }) : RanA P φ H w s (newC one l H) := by
 unfold newC
 rcases shapeC_eq one l R1.fail (fun esz rows => H.addC (.row true esz rows) fun k G => .val (.ptr k 0) G) with e1 | ⟨esz, rows, e1, hp, hl, hf⟩
 ·rw [e1]; exact .fail
 ·rw [e1, Heap.addC_eq]
  exact .new none esz rows vs e ⟨hp, hl, by rw [hf]; exact hv, h1, by simp, hs⟩
theorem run_newVar (t : TypeId) (v : Value) (w : World) : (newVar t v).run P w = .ok ⟨w.heap.size, 0, none⟩ { w with heap := w.heap.push (.cells v.cells t) } := by
 simp [newVar, newRow]
def zeroL (P : Program) (t : TypeId) : Option (List AV) := ((P.info? t).bind (·.zero)).bind fun z => ofScalars z.cells.toList
theorem run_zeroValue' {t : TypeId} {l : List AV} (h : zeroL P t = some l) (w : World) : ∃ z, (zeroValue t).run P w = .ok z w ∧ ofScalars z.cells.toList = some l := by
 unfold zeroL at h
 cases hi : P.info? t with
 | none => simp [hi] at h
 | some i =>
  cases hz : i.zero with
  | none => simp [hi, hz] at h
  | some z => simp [hi, hz] at h; exact ⟨z, by simp [zeroValue, typeInfo, hi, hz], h⟩
theorem alloc_sound {t : TypeId} {l : List AV} (hz : zeroL P t = some l) (one : Bool) :
  RanA P φ H w (do return Next.value (← Instr.alloc t true (.tuple #[]))) (newC one l H) := by
 obtain ⟨z, hz1, hz2⟩ := run_zeroValue' hz w
 have hs := ofScalars_sound (P := P) (φ := φ) hz2
 refine newC_sound one hs.1 hs.2 t _ (run_v ?_)
 simp [Instr.alloc, hz1, run_newVar]
noncomputable def cellsC {β : Type} (v : AV) (f : β) (c : List AV → β) : β := asAggC v (bif' (AV.one v) (c [v]) f) c
theorem cellsC_eq {β : Type} {v : AV} {v' : Value} (hv : VRel P φ v v') (f : β) (c : List AV → β) :
  cellsC v f c = f ∨ ∃ l, cellsC v f c = c l ∧ VRels P φ l v'.cells.toList ∧ ∀ x ∈ v'.cells.toList, x.oneCell' = true := by
 by_cases ho : AV.one v = true
 ·right
  have hv1 := hv.one
  rw [ho] at hv1
  have hc : v'.cells.toList = [v'] := by cases v' <;> simp_all [Value.cells, Value.oneCell']
  refine ⟨[v], ?_, by rw [hc]; exact .one hv, by rw [hc]; simpa using hv1⟩
  unfold cellsC
  rw [ho]
  cases v <;> first | rfl | (simp [AV.one] at ho)
 ·cases hv <;> first | (simp [AV.one] at ho; done) | skip
  ·rename_i l c' h h1; exact .inr ⟨l, rfl, h, h1⟩
  ·exact .inl rfl
noncomputable def boxR (one : Bool) (x : X) (T : Tr AV) (H : Heap) : R1 := withX T x .fail fun v => cellsC v .fail fun l => newC one l H
theorem box_sound {t : TypeId} (one : Bool) {o : Operand} {x : X} (hx : cX o = some x) (ht : TRelAt P φ T a.tmps (· ∈ tmpsOf [o])) :
  RanA P φ H w (do return Next.value (← Instr.box t (a.eval o))) (boxR one x T H) := by
 unfold boxR
 rcases withX_eq T x R1.fail (fun v => cellsC v .fail fun l => newC one l H) with ⟨_, e⟩ | ⟨v, hv, e⟩ <;> rw [e]
 ·exact .fail
 have hv' := evX_sound ht hx hv
 rcases cellsC_eq hv' R1.fail (fun l => newC one l H) with e | ⟨l, e, h1, h2⟩ <;> rw [e]
 ·exact .fail
 exact newC_sound one h1 h2 t _ (run_v (by simp [Instr.box, run_newVar]))
noncomputable def blkC {β : Type} (H : Heap) (k : K) (f : β) (c : Bool → Nat → List (List AV) → β) : β :=
 Option.rec (motive := fun _ => β) f (fun b => Blk.rec (motive := fun _ => β) f c (fun _ => f) b) (H.get k)
theorem blkC_eq {β : Type} (H : Heap) (k : K) (f : β) (c : Bool → Nat → List (List AV) → β) : blkC H k f c = f ∨ ∃ wr esz rows, H.get k = some (.row wr esz rows) ∧ blkC H k f c = c wr esz rows := by
 unfold blkC
 cases h : H.get k with
 | none => exact .inl rfl
 | some b => cases b with
  | dead => exact .inl rfl
  | row wr esz rows => exact .inr ⟨_, _, _, rfl, rfl⟩
  | map _ => exact .inl rfl
noncomputable def loadC {β : Type} (H : Heap) (k : K) (off n : Nat) (f : β) (c : List AV → β) : β := blkC H k f fun _ esz rows => readC f esz rows off n c
noncomputable def hdC {β : Type} (l : List AV) (f : β) (c : AV → β) : β := List.rec (motive := fun _ => β) f (fun x _ _ => c x) l
noncomputable def ldV {β : Type} (agg : Bool) (n : Nat) (k : K) (off : Nat) (H : Heap) (f : β) (c : AV → β) : β :=
 bif' agg (loadC H k off n f fun l => c (.agg l)) (loadC H k off 1 f fun l => hdC l f c)
theorem loadC_sound {β : Type} (hw : WRel P φ H w) {k : K} {at_ : At} (hk : φ k = some at_) (off n : Nat) (f : β) (c : List AV → β) :
  loadC H k off n f c = f ∨ ∃ l vs, loadC H k off n f c = c l ∧ l.length = n ∧ VRels P φ l vs ∧ (∀ v ∈ vs, v.oneCell' = true) ∧ (loadCells ⟨at_.b, at_.o + off, none⟩ n).run P w = .ok vs.toArray w ∧
   ∃ wr esz rows, H.get k = some (.row wr esz rows) ∧ off + n ≤ rows.flatten.length ∧ l = (rows.flatten.drop off).take n := by
 unfold loadC
 rcases blkC_eq H k f (fun _ esz rows => readC f esz rows off n c) with e | ⟨wr, esz, rows, hg, e⟩ <;> rw [e]
 ·exact .inl rfl
 have hb := hw.blk k _ at_ hg hk
 rcases readC_eq f esz rows off n c hb.pos hb.len with e1 | ⟨hn, e1⟩ <;> rw [e1]
 ·exact .inl rfl
 right
 obtain ⟨vs, h1, h2, h3⟩ := loadCells_sound hw hg hk off n hn
 exact ⟨_, vs, rfl, by rw [List.length_take, List.length_drop]; omega, h2, h3, h1, wr, esz, rows, hg, hn, rfl⟩
theorem ldV_sound {β : Type} (hw : WRel P φ H w) {k : K} {at_ : At} (hk : φ k = some at_) {t : TypeId} {n : Nat} {b : Bool} (hb : aggT P t = some b) (hn : szT P t = some n) (off : Nat) (f : β) (c : AV → β) :
  ldV b n k off H f c = f ∨ ∃ v v', ldV b n k off H f c = c v ∧ (loadVar t ⟨at_.b, at_.o + off, none⟩).run P w = .ok v' w ∧ VRel P φ v v' := by
 unfold ldV
 cases b
 ·rw [bif_false]
  rcases loadC_sound hw hk off 1 f (fun l => hdC l f c) with e | ⟨l, vs, e, hl, h1, h2, _, wr, esz, rows, hg, hlen, hl2⟩ <;> rw [e]
  ·exact .inl rfl
  match l, hl with
  | [x], _ =>
   right
   have hx : rows.flatten[off]? = some x := by
    have := congrArg (·[0]?) hl2
    simp only [List.getElem?_take_of_lt (show 0 < 1 by omega), List.getElem?_drop] at this
    simpa using this.symm
   obtain ⟨v', hr, hv, _⟩ := load_sound hw hg hk off x hx
   exact ⟨x, v', rfl, by simp only [loadVar, Sem.run_bind, run_isAgg' hb, Result.andThen_ok]; simpa using hr, hv⟩
 ·rw [bif_true]
  rcases loadC_sound hw hk off n f (fun l => c (.agg l)) with e | ⟨l, vs, e, hl, h1, h2, hr, _⟩ <;> rw [e]
  ·exact .inl rfl
  right
  exact ⟨.agg l, .agg vs.toArray, rfl, by simp [loadVar, run_isAgg' hb, run_sizeOf' hn, hr], .agg _ _ (by simpa using h1) (by simpa using h2)⟩
noncomputable def ldR (agg : Bool) (n : Nat) (x : X) (T : Tr AV) (H : Heap) : R1 := withX T x .fail fun v => asPtrC v .fail fun k off => ldV agg n k off H .fail fun v => .val v H
theorem ld_sound (hw : WRel P φ H w) {t : TypeId} {n : Nat} {b : Bool} (hb : aggT P t = some b) (hn : szT P t = some n) {o : Operand} {x : X} (hx : cX o = some x) (ht : TRelAt P φ T a.tmps (· ∈ tmpsOf [o])) :
  Ran0 P φ H w (do return Next.value (← Instr.loadAt t (a.eval o))) (ldR b n x T H) := by
 unfold ldR
 rcases withX_eq T x R1.fail (fun v => asPtrC v .fail fun k off => ldV b n k off H .fail fun v => .val v H) with ⟨_, e⟩ | ⟨v, hv, e⟩ <;> rw [e]
 ·exact .fail
 have hv' := evX_sound ht hx hv
 generalize a.eval o = y at *
 cases hv' <;> try exact .fail
 rename_i k off at_ hk
 show Ran0 P φ H w _ (ldV b n k off H .fail fun v => .val v H)
 rcases ldV_sound hw hk hb hn off R1.fail (fun v => .val v H) with e | ⟨v, v', e, hr, hv⟩ <;> rw [e]
 ·exact .fail
 exact .pure hw (run_v (by simp [Instr.loadAt, Instr.sureAddr, hr])) hv
noncomputable def stV (n : Nat) (k : K) (off : Nat) (v : AV) (H : Heap) : R1 :=
 cellsC v .fail fun l => bif' (Nat.beq l.length n) (blkC H k .fail fun wr esz rows => bif' wr (writeC .fail esz rows off l fun rows => H.setC k (.row true esz rows) fun H => .val (.tup []) H) .fail) .fail
theorem stV_sound (hw : WRel P φ H w) {k : K} {at_ : At} (hk : φ k = some at_) {t : TypeId} {n : Nat} (hn : szT P t = some n) (off : Nat) {v : AV} {v' : Value} (hv : VRel P φ v v') (s : Sem Next)
  (hs : ∀ u, (storeVar t ⟨at_.b, at_.o + off, none⟩ v').run P w = .ok () u → s.run P w = .ok .skip u) : Ran P φ H w s (stV n k off v H) := by
 unfold stV
 rcases cellsC_eq hv R1.fail (fun l => bif' (Nat.beq l.length n) (blkC H k .fail fun wr esz rows => bif' wr (writeC .fail esz rows off l fun rows => H.setC k (.row true esz rows) fun H => .val (.tup []) H) .fail) .fail) with e | ⟨l, e, h1, h2⟩ <;> rw [e]
 ·exact .fail
 by_cases hl : Nat.beq l.length n = true
 case neg => rw [eq_false_of_ne_true hl]; exact .fail
 rw [hl, bif_true]
 rcases blkC_eq H k R1.fail (fun wr esz rows => bif' wr (writeC .fail esz rows off l fun rows => H.setC k (.row true esz rows) fun H => .val (.tup []) H) .fail) with e | ⟨wr, esz, rows, hg, e⟩ <;> rw [e]
 ·exact .fail
 cases wr
 ·exact .fail
 rw [bif_true]
 have hb := hw.blk k _ at_ hg hk
 rcases writeC_eq R1.fail esz rows off l (fun rows => H.setC k (.row true esz rows) fun H => .val (.tup []) H) hb.pos hb.len with e1 | ⟨rows', e1, hwr⟩ <;> rw [e1]
 ·exact .fail
 rw [Heap.setC_eq]
 obtain ⟨u, hr, hw', he⟩ := storeCells_sound hw hg hk h1 h2 hwr
 refine .val _ _ _ undef u φ (hs u ?_) (.inr ⟨rfl, rfl⟩) hw' he (.tup _ _ .nil)
 have hsz : ¬ (v'.cells.size ≠ n) := by have := h1.length; simp at hl this; omega
 simp only [storeVar, Sem.run_bind, run_sizeOf' hn, Result.andThen_ok, if_neg hsz]
 exact hr
noncomputable def stR (n : Nat) (x y : X) (T : Tr AV) (H : Heap) : R1 := withX T x .fail fun p => asPtrC p .fail fun k off => withX T y .fail fun v => stV n k off v H
theorem st_sound (hw : WRel P φ H w) {t : TypeId} {n : Nat} (hn : szT P t = some n) {o1 o2 : Operand} {x y : X} (hx : cX o1 = some x) (hy : cX o2 = some y) (ht : TRelAt P φ T a.tmps (· ∈ tmpsOf [o1, o2])) :
  Ran P φ H w (do Instr.storeAt t (a.eval o1) (a.eval o2); return Next.skip) (stR n x y T H) := by
 unfold stR
 rcases withX_eq T x R1.fail (fun p => asPtrC p .fail fun k off => withX T y .fail fun v => stV n k off v H) with ⟨_, e⟩ | ⟨v, hv, e⟩ <;> rw [e]
 ·exact .fail
 have hv' := evX_sound (ht.sub fun t h => by simp only [tmpsOf, List.filterMap_cons, List.filterMap_nil] at h ⊢; split at h <;> simp_all) hx hv
 generalize a.eval o1 = p at *
 cases hv' <;> try exact .fail
 rename_i k off at_ hk
 show Ran P φ H w _ (withX T y .fail fun v => stV n k off v H)
 rcases withX_eq T y R1.fail (fun v => stV n k off v H) with ⟨_, e⟩ | ⟨v, hv, e⟩ <;> rw [e]
 ·exact .fail
 have hv' := evX_sound (ht.sub fun t h => by simp only [tmpsOf, List.filterMap_cons, List.filterMap_nil] at h ⊢; (split at h <;> split) <;> simp_all) hy hv
 refine stV_sound hw hk hn off hv' _ fun u hu => run_u ?_
 simp [Instr.storeAt, Instr.sureAddr, hu]
noncomputable def nilR (x : X) (T : Tr AV) (H : Heap) : R1 := withX T x .fail fun v => asPtrC v (asIfaceC v .fail (fun t u => .val (.iface t u) H) .fail) fun k off => .val (.ptr k off) H
theorem nil_sound (hw : WRel P φ H w) {o : Operand} {x : X} (hx : cX o = some x) (ht : TRelAt P φ T a.tmps (· ∈ tmpsOf [o])) (oo : Oper) (ho : oo.op = .nilCheck o) :
  Ran0 P φ H w (execOp a.eval oo) (nilR x T H) := by
 unfold nilR
 rcases withX_eq T x R1.fail (fun v => asPtrC v (asIfaceC v .fail (fun t u => .val (.iface t u) H) .fail) fun k off => .val (.ptr k off) H) with ⟨_, e⟩ | ⟨v, hv, e⟩ <;> rw [e]
 ·exact .fail
 have hv' := evX_sound ht hx hv
 unfold execOp
 rw [ho]
 dsimp only
 generalize a.eval o = y at *
 cases hv' <;> try exact .fail
 ·rename_i k off at_ hk
  exact .pure hw rfl (.ptr _ _ _ hk)
 ·rename_i t u u' h
  exact .pure hw rfl (.iface _ _ _ h)
end Go.Ev
namespace Go.Ev
variable {P : Program} {φ : Phi} {H : Heap} {w : World} {T : Tr AV} {a : Act}
noncomputable def kn (k : IntKind) : Nat := IntKind.rec (motive := fun _ => Nat) 0 1 2 3 4 5 6 7 k
theorem kn_inj {j k : IntKind} (h : Nat.beq (kn j) (kn k) = true) : j = k := by
 rw [Nat.beq_eq] at h
 cases j <;> cases k <;> first | rfl | (exact absurd h (by decide +kernel))
inductive LK where
 | no | bool | int | str
def lkOf (P : Program) (t : TypeId) : LK := match P.underlying t with
 | some .bool => .bool
 | some (.int _) => .int
 | some .string => .str
 | _ => .no
section
variable {β : Type}
noncomputable def eq1C (lk : LK) (v u : AV) (f : β) (c : Bool → β) : β :=
 LK.rec (motive := fun _ => β) f
  (asBoolC v f fun a => asBoolC u f fun b => fB (bif' a b (Bool.not b)) c)
  (asIntC v f fun k a => asIntC u f fun j b => bif' (Nat.beq (kn k) (kn j)) (eqI a b c) f)
  (asStrC v f fun a => asStrC u f fun b => fB (eqL a b) c) lk
theorem eq1C_sound {v u : AV} {v' u' : Value} (hv : VRel P φ v v') (hu : VRel P φ u u') (t : TypeId) (f : β) (c : Bool → β) :
  eq1C (lkOf P t) v u f c = f ∨ ∃ z, eq1C (lkOf P t) v u f c = c z ∧ v'.oneCell' = true ∧ u'.oneCell' = true ∧ (∀ d w, (Op.equalIn (d + 1) t v' u').run P w = .ok z w) := by
 unfold lkOf
 split
 ·rename_i h
  cases hv <;> try exact .inl rfl
  rename_i b
  cases hu <;> try exact .inl rfl
  rename_i b'
  exact .inr ⟨_, fB_eq _ _, rfl, rfl, fun d w => by rw [run_equalIn_bool' w d t b b' h]; cases b <;> cases b' <;> rfl⟩
 ·rename_i h
  cases hv <;> try exact .inl rfl
  rename_i k n
  cases hu <;> try exact .inl rfl
  rename_i k' n'
  show (bif' (Nat.beq (kn k) (kn k')) (eqI n n' c) f = f) ∨ _
  by_cases hk : Nat.beq (kn k) (kn k') = true
  case neg => left; rw [eq_false_of_ne_true hk]; rfl
  have := kn_inj hk; subst this
  right
  refine ⟨decide (n = n'), ?_, rfl, rfl, fun d w => ?_⟩
  ·show bif' (Nat.beq (kn k) (kn k)) (eqI n n' c) f = _
   rw [hk, bif_true, eqI_eq]
  ·rw [run_equalIn_int w d t k _ n n' h]
   congr 1
 ·rename_i h
  cases hv <;> try exact .inl rfl
  rename_i l s hs
  cases hu <;> try exact .inl rfl
  rename_i l' s' hs'
  refine .inr ⟨_, fB_eq _ _, rfl, rfl, fun d w => ?_⟩
  rw [run_equalIn_string w d t s s' h]
  subst hs hs'
  rw [eqL_map, ByteArray.toList_eq, ByteArray.toList_eq]
 ·exact .inl rfl
noncomputable def eqCs (x : List AV) : List AV → List LK → β → (Bool → β) → β :=
 List.rec (motive := fun _ => List AV → List LK → β → (Bool → β) → β) (fun y _ f c => List.rec (motive := fun _ => β) (c true) (fun _ _ _ => f) y)
  (fun v _ ih y ks f c => List.rec (motive := fun _ => β) f (fun u r _ => List.rec (motive := fun _ => β) f (fun k ks _ => eq1C k v u f fun z => bif' z (ih r ks f c) (c false)) ks) y) x
end
inductive EK where
 | no | bool | ptr | slice | func | map | iface | plain (n : Nat)
def ekOf (P : Program) (t : TypeId) : EK := match P.underlying t with
 | some .bool => .bool
 | some (.pointer e) => if szT P e = some 0 ∨ szT P e = none then .no else .ptr
 | some (.slice _) => .slice
 | some (.func _ _ _) => .func
 | some (.map _ _) => .map
 | some (.interface _) => .iface
 | _ => .no
def dynT (P : Program) (t : TypeId) : Bool := ((P.info? t).map (·.comparable)).getD false
section
variable {β : Type}
noncomputable def eqVC (P : Program) (ek : EK) (lit : Bool) (v u : AV) (f : β) (c : Bool → β) : β :=
 EK.rec (motive := fun _ => β) f
  (eq1C .bool v u f c)
  (asPtrN v f (asPtrN u f (c true) fun _ _ => c false) fun k i => asPtrN u f (c false) fun j m => bif' (K.beq k j) (fB (Nat.beq i m) c) f)
  (asSliceC v f (asSliceC u f (c true) fun _ _ _ _ _ _ => c false) fun _ _ _ _ _ _ => asSliceC u f (c false) fun _ _ _ _ _ _ => f)
  (asFnN v f (fun _ _ _ => asFnN u f (fun _ _ _ => f) (c false)) (asFnN u f (fun _ _ _ => c false) (c true)))
  (asMapC v f (asMapC u f (c true) fun _ => c false) fun _ => asMapC u f (c false) fun _ => f)
  (asIfaceC v f (fun t x => asIfaceC u f (fun s y => bif' (Nat.beq t s) (bif' (dynT P t) (eq1C (lkOf P t) x y f c) f) (c false)) (c false)) (asIfaceC u f (fun _ _ => c false) (bif' lit (c true) f)))
  (fun _ => f) ek
def isK : Operand → Bool
 | .const _ => true
 | _ => false
theorem eqGuard_ok (op : BinOp) (t : TypeId) (x y : Operand) (v u : Value) (w : World) (h1 : v = .nilIface → u = .nilIface → (isK x || isK y) = true) (h2 : ∀ c d, v = .agg c → u ≠ .agg d) :
    (eqGuard op t x y v u).run P w = .ok () w := by
  unfold eqGuard
  cases op <;> first
    | rfl
    | (simp only [Bool.not_true, Bool.false_eq_true, if_false]
       split
       · have h := h1 rfl rfl
         cases x <;> cases y <;> first | rfl | (simp [isK] at h)
       · exact absurd rfl (h2 _ _ rfl)
       · rfl)
theorem binOp_eql {t : TypeId} {v u : Value} (hi : ∀ k n, v ≠ .int k n) (hs : ∀ s, v ≠ .string s) (hf : ∀ k n, v ≠ .float k n) (hc : ∀ k n m, v ≠ .complex k n m) {z : Bool} {w : World}
  (h : (Op.equalIn (9999 + 1) t v u).run P w = .ok z w) : (Go.binOp .eql t v u).run P w = .ok (.bool z) w ∧ (Go.binOp .neq t v u).run P w = .ok (.bool (!z)) w := by
 have h' : (Op.equal t v u).run P w = .ok z w := h
 cases v <;> first
  | exact absurd rfl (hi _ _)
  | exact absurd rfl (hs _)
  | exact absurd rfl (hf _ _)
  | exact absurd rfl (hc _ _ _)
  | (constructor <;> simp [Go.binOp, h'])
theorem typeInfo_of {t : TypeId} {i : TypeInfo} (h : P.info? t = some i) (w : World) : (typeInfo t).run P w = .ok i w := by simp [typeInfo, h]
section
variable {t : TypeId} {w : World} (d : Nat)
theorem eqn_ptr00 {e : TypeId} (ht : P.underlying t = some (.pointer e)) : (Op.equalIn (d + 1) t (.pointer none) (.pointer none)).run P w = .ok true w := by simp [Op.equalIn, run_underlying ht]
theorem eqn_ptr01 {e : TypeId} (ht : P.underlying t = some (.pointer e)) (b : Addr) : (Op.equalIn (d + 1) t (.pointer none) (.pointer (some b))).run P w = .ok false w := by simp [Op.equalIn, run_underlying ht]
theorem eqn_ptr10 {e : TypeId} (ht : P.underlying t = some (.pointer e)) (b : Addr) : (Op.equalIn (d + 1) t (.pointer (some b)) (.pointer none)).run P w = .ok false w := by simp [Op.equalIn, run_underlying ht]
theorem eqn_ptr11 {e : TypeId} (ht : P.underlying t = some (.pointer e)) {n : Nat} (hn : szT P e = some n) (h0 : n ≠ 0) (b i m : Nat) :
  (Op.equalIn (d + 1) t (.pointer (some ⟨b, i, none⟩)) (.pointer (some ⟨b, m, none⟩))).run P w = .ok (decide (i = m)) w := by
 simp only [Op.equalIn, Sem.run_bind, run_underlying ht, Result.andThen_ok, run_sizeOf' hn, Sem.run_ite, ne_eq, h0, not_false_eq_true, if_true, sameAddr, beq_self_eq_true, Sem.run_pure]
 congr 1
 rw [Bool.eq_iff_iff]; simp
theorem eqn_sl0 {e : TypeId} (ht : P.underlying t = some (.slice e)) (l m : Nat) (b : Option Addr) (l' m' : Nat) : (Op.equalIn (d + 1) t (.slice none l m) (.slice b l' m')).run P w = .ok b.isNone w := by simp [Op.equalIn, run_underlying ht]
theorem eqn_sl1 {e : TypeId} (ht : P.underlying t = some (.slice e)) (b : Addr) (l m l' m' : Nat) : (Op.equalIn (d + 1) t (.slice (some b) l m) (.slice none l' m')).run P w = .ok false w := by simp [Op.equalIn, run_underlying ht]
theorem eqn_fn00 {a b : Array TypeId} {c : Bool} (ht : P.underlying t = some (.func a b c)) : (Op.equalIn (d + 1) t .nilFunc .nilFunc).run P w = .ok true w := by simp [Op.equalIn, run_underlying ht]
theorem eqn_fn01 {a b : Array TypeId} {c : Bool} (ht : P.underlying t = some (.func a b c)) (f : Fn) (x y : Array Value) : (Op.equalIn (d + 1) t .nilFunc (.func f x y)).run P w = .ok false w := by simp [Op.equalIn, run_underlying ht]
theorem eqn_fn10 {a b : Array TypeId} {c : Bool} (ht : P.underlying t = some (.func a b c)) (f : Fn) (x y : Array Value) : (Op.equalIn (d + 1) t (.func f x y) .nilFunc).run P w = .ok false w := by simp [Op.equalIn, run_underlying ht]
theorem eqn_map0 {a b : TypeId} (ht : P.underlying t = some (.map a b)) (r : Option Nat) : (Op.equalIn (d + 1) t (.map none) (.map r)).run P w = .ok r.isNone w := by simp [Op.equalIn, run_underlying ht]
theorem eqn_map1 {a b : TypeId} (ht : P.underlying t = some (.map a b)) (r : Nat) : (Op.equalIn (d + 1) t (.map (some r)) (.map none)).run P w = .ok false w := by simp [Op.equalIn, run_underlying ht]
theorem eqn_if00 {a : Array (String × TypeId)} (ht : P.underlying t = some (.interface a)) : (Op.equalIn (d + 1) t .nilIface .nilIface).run P w = .ok true w := by simp [Op.equalIn, run_underlying ht]
theorem eqn_if01 {a : Array (String × TypeId)} (ht : P.underlying t = some (.interface a)) (s : TypeId) (v : Value) : (Op.equalIn (d + 1) t .nilIface (.iface s v)).run P w = .ok false w := by simp [Op.equalIn, run_underlying ht]
theorem eqn_if10 {a : Array (String × TypeId)} (ht : P.underlying t = some (.interface a)) (s : TypeId) (v : Value) : (Op.equalIn (d + 1) t (.iface s v) .nilIface).run P w = .ok false w := by simp [Op.equalIn, run_underlying ht]
theorem eqn_ifne {a : Array (String × TypeId)} (ht : P.underlying t = some (.interface a)) {s r : TypeId} (h : s ≠ r) (v u : Value) : (Op.equalIn (d + 1) t (.iface s v) (.iface r u)).run P w = .ok false w := by simp [Op.equalIn, run_underlying ht, h]
theorem eqn_ifeq {a : Array (String × TypeId)} (ht : P.underlying t = some (.interface a)) {s : TypeId} {i : TypeInfo} (hi : P.info? s = some i) (hc : i.comparable = true) (v u : Value) : (Op.equalIn (d + 1) t (.iface s v) (.iface s u)).run P w = (Op.equalIn d s v u).run P w := by
 simp only [Op.equalIn, Sem.run_bind, run_underlying ht, Result.andThen_ok, ne_eq, not_true_eq_false, if_false, typeInfo_of hi, hc, Bool.not_true, Bool.false_eq_true]
end
theorem eqVC_sound {t : TypeId} {v u : AV} {v' u' : Value} (hv : VRel P φ v v') (hu : VRel P φ u u') (x y : Operand) (op : BinOp) (lit : Bool) (hlit : lit = true → (isK x || isK y) = true) (f : β) (c : Bool → β) (w : World) :
  eqVC P (ekOf P t) lit v u f c = f ∨ ∃ z, eqVC P (ekOf P t) lit v u f c = c z ∧ (eqGuard op t x y v' u').run P w = .ok () w ∧ (Go.binOp .eql t v' u').run P w = .ok (.bool z) w ∧ (Go.binOp .neq t v' u').run P w = .ok (.bool (!z)) w := by
 unfold ekOf
 split <;> try exact .inl rfl
 ·rename_i ht
  show eq1C .bool v u f c = f ∨ _
  have hl : lkOf P t = .bool := by simp [lkOf, ht]
  rcases eq1C_sound hv hu t f c with e | ⟨z, e, h1, h2, hz⟩ <;> rw [hl] at e
  ·exact .inl e
  ·cases hv <;> try exact .inl rfl
   cases hu <;> try exact .inl rfl
   exact .inr ⟨z, e, eqGuard_ok _ _ _ _ _ _ _ (fun h => by cases h) (fun _ _ h => by cases h), binOp_eql (fun _ _ h => by cases h) (fun _ h => by cases h) (fun _ _ h => by cases h) (fun _ _ _ h => by cases h) (hz 9999 w)⟩
 ·rename_i e' ht
  split
  ·exact .inl rfl
  rename_i hsz
  show (asPtrN v f (asPtrN u f (c true) fun _ _ => c false) fun k i => asPtrN u f (c false) fun j m => bif' (K.beq k j) (fB (Nat.beq i m) c) f) = f ∨ _
  have hg : ∀ p q, (eqGuard op t x y (.pointer p) (.pointer q)).run P w = .ok () w := fun p q => eqGuard_ok _ _ _ _ _ _ _ (fun h => by cases h) (fun _ _ h => by cases h)
  have key : ∀ p q z, (Op.equalIn (9999 + 1) t (.pointer p) (.pointer q)).run P w = .ok z w → (eqGuard op t x y (.pointer p) (.pointer q)).run P w = .ok () w ∧ (Go.binOp .eql t (.pointer p) (.pointer q)).run P w = .ok (.bool z) w ∧ (Go.binOp .neq t (.pointer p) (.pointer q)).run P w = .ok (.bool (!z)) w :=
   fun p q z h => ⟨hg p q, binOp_eql (fun _ _ h => by cases h) (fun _ h => by cases h) (fun _ _ h => by cases h) (fun _ _ _ h => by cases h) h⟩
  cases hv <;> try exact .inl rfl
  ·cases hu <;> try exact .inl rfl
   ·exact .inr ⟨true, rfl, key _ _ _ (by first | exact eqn_ptr00 9999 ht | exact eqn_ptr01 9999 ht _ | exact eqn_ptr10 9999 ht _)⟩
   ·exact .inr ⟨false, rfl, key _ _ _ (by first | exact eqn_ptr00 9999 ht | exact eqn_ptr01 9999 ht _ | exact eqn_ptr10 9999 ht _)⟩
  ·rename_i k i at1 hk
   cases hu <;> try exact .inl rfl
   ·exact .inr ⟨false, rfl, key _ _ _ (by first | exact eqn_ptr00 9999 ht | exact eqn_ptr01 9999 ht _ | exact eqn_ptr10 9999 ht _)⟩
   ·rename_i j m at2 hj
    show bif' (K.beq k j) (fB (Nat.beq i m) c) f = f ∨ _
    by_cases hkj : K.beq k j = true
    case neg => left; rw [eq_false_of_ne_true hkj]; rfl
    right
    have := (K.beq_iff k j).1 hkj
    subst this
    rw [hk] at hj; cases hj
    refine ⟨Nat.beq i m, ?_, key _ _ _ ?_⟩
    ·show bif' (K.beq k k) (fB (Nat.beq i m) c) f = _; rw [hkj, bif_true, fB_eq]
    ·have hn : ∃ n, szT P e' = some n ∧ n ≠ 0 := by
      cases h : szT P e' with
      | none => exact absurd (.inr h) hsz
      | some n => exact ⟨n, rfl, fun h0 => hsz (.inl (by rw [h, h0]))⟩
     obtain ⟨n, hn1, hn2⟩ := hn
     rw [eqn_ptr11 9999 ht hn1 hn2]
     congr 1
     rw [Bool.eq_iff_iff]; simp
 ·rename_i e' ht
  show (asSliceC v f (asSliceC u f (c true) fun _ _ _ _ _ _ => c false) fun _ _ _ _ _ _ => asSliceC u f (c false) fun _ _ _ _ _ _ => f) = f ∨ _
  have key : ∀ p l m q l' m' z, (Op.equalIn (9999 + 1) t (.slice p l m) (.slice q l' m')).run P w = .ok z w → (eqGuard op t x y (.slice p l m) (.slice q l' m')).run P w = .ok () w ∧ (Go.binOp .eql t (.slice p l m) (.slice q l' m')).run P w = .ok (.bool z) w ∧ (Go.binOp .neq t (.slice p l m) (.slice q l' m')).run P w = .ok (.bool (!z)) w :=
   fun p l m q l' m' z h => ⟨eqGuard_ok _ _ _ _ _ _ _ (fun h => by cases h) (fun _ _ h => by cases h), binOp_eql (fun _ _ h => by cases h) (fun _ h => by cases h) (fun _ _ h => by cases h) (fun _ _ _ h => by cases h) h⟩
  cases hv <;> try exact .inl rfl
  ·cases hu <;> try exact .inl rfl
   ·exact .inr ⟨true, rfl, key _ _ _ _ _ _ _ (by first | exact eqn_sl0 9999 ht _ _ _ _ _ | exact eqn_sl1 9999 ht _ _ _ _ _)⟩
   ·exact .inr ⟨false, rfl, key _ _ _ _ _ _ _ (by first | exact eqn_sl0 9999 ht _ _ _ _ _ | exact eqn_sl1 9999 ht _ _ _ _ _)⟩
   ·exact .inr ⟨false, rfl, key _ _ _ _ _ _ _ (by first | exact eqn_sl0 9999 ht _ _ _ _ _ | exact eqn_sl1 9999 ht _ _ _ _ _)⟩
  ·cases hu <;> try exact .inl rfl
   exact .inr ⟨false, rfl, key _ _ _ _ _ _ _ (by first | exact eqn_sl0 9999 ht _ _ _ _ _ | exact eqn_sl1 9999 ht _ _ _ _ _)⟩
  ·cases hu <;> try exact .inl rfl
   exact .inr ⟨false, rfl, key _ _ _ _ _ _ _ (by first | exact eqn_sl0 9999 ht _ _ _ _ _ | exact eqn_sl1 9999 ht _ _ _ _ _)⟩
 ·rename_i ht
  show (asFnN v f (fun _ _ _ => asFnN u f (fun _ _ _ => f) (c false)) (asFnN u f (fun _ _ _ => c false) (c true))) = f ∨ _
  cases hv <;> try exact .inl rfl
  ·cases hu <;> try exact .inl rfl
   exact .inr ⟨false, rfl, eqGuard_ok _ _ _ _ _ _ _ (fun h => by cases h) (fun _ _ h => by cases h), binOp_eql (fun _ _ h => by cases h) (fun _ h => by cases h) (fun _ _ h => by cases h) (fun _ _ _ h => by cases h) (by first | exact eqn_fn00 9999 ht | exact eqn_fn01 9999 ht _ _ _ | exact eqn_fn10 9999 ht _ _ _)⟩
  ·cases hu <;> try exact .inl rfl
   ·exact .inr ⟨false, rfl, eqGuard_ok _ _ _ _ _ _ _ (fun h => by cases h) (fun _ _ h => by cases h), binOp_eql (fun _ _ h => by cases h) (fun _ h => by cases h) (fun _ _ h => by cases h) (fun _ _ _ h => by cases h) (by first | exact eqn_fn00 9999 ht | exact eqn_fn01 9999 ht _ _ _ | exact eqn_fn10 9999 ht _ _ _)⟩
   ·exact .inr ⟨true, rfl, eqGuard_ok _ _ _ _ _ _ _ (fun h => by cases h) (fun _ _ h => by cases h), binOp_eql (fun _ _ h => by cases h) (fun _ h => by cases h) (fun _ _ h => by cases h) (fun _ _ _ h => by cases h) (by first | exact eqn_fn00 9999 ht | exact eqn_fn01 9999 ht _ _ _ | exact eqn_fn10 9999 ht _ _ _)⟩
 ·rename_i ht
  show (asMapC v f (asMapC u f (c true) fun _ => c false) fun _ => asMapC u f (c false) fun _ => f) = f ∨ _
  cases hv <;> try exact .inl rfl
  ·cases hu <;> try exact .inl rfl
   ·exact .inr ⟨true, rfl, eqGuard_ok _ _ _ _ _ _ _ (fun h => by cases h) (fun _ _ h => by cases h), binOp_eql (fun _ _ h => by cases h) (fun _ h => by cases h) (fun _ _ h => by cases h) (fun _ _ _ h => by cases h) (by first | exact eqn_map0 9999 ht _ | exact eqn_map1 9999 ht _)⟩
   ·exact .inr ⟨false, rfl, eqGuard_ok _ _ _ _ _ _ _ (fun h => by cases h) (fun _ _ h => by cases h), binOp_eql (fun _ _ h => by cases h) (fun _ h => by cases h) (fun _ _ h => by cases h) (fun _ _ _ h => by cases h) (by first | exact eqn_map0 9999 ht _ | exact eqn_map1 9999 ht _)⟩
  ·cases hu <;> try exact .inl rfl
   exact .inr ⟨false, rfl, eqGuard_ok _ _ _ _ _ _ _ (fun h => by cases h) (fun _ _ h => by cases h), binOp_eql (fun _ _ h => by cases h) (fun _ h => by cases h) (fun _ _ h => by cases h) (fun _ _ _ h => by cases h) (by first | exact eqn_map0 9999 ht _ | exact eqn_map1 9999 ht _)⟩
 ·rename_i ms ht
  show (asIfaceC v f (fun t x => asIfaceC u f (fun s y => bif' (Nat.beq t s) (bif' (dynT P t) (eq1C (lkOf P t) x y f c) f) (c false)) (c false)) (asIfaceC u f (fun _ _ => c false) (bif' lit (c true) f))) = f ∨ _
  cases hv <;> try exact .inl rfl
  ·rename_i t1 x1 x1' h1
   cases hu <;> try exact .inl rfl
   ·rename_i t2 x2 x2' h2
    show bif' (Nat.beq t1 t2) (bif' (dynT P t1) (eq1C (lkOf P t1) x1 x2 f c) f) (c false) = f ∨ _
    by_cases htt : Nat.beq t1 t2 = true
    ·have := Nat.eq_of_beq_eq_true htt; subst this
     by_cases hd : dynT P t1 = true
     case neg => left; rw [htt, eq_false_of_ne_true hd]; rfl
     rcases eq1C_sound h1 h2 t1 f c with e | ⟨z, e, _, _, hz⟩
     ·left; rw [htt, hd, bif_true, bif_true, e]
     ·cases hi : P.info? t1 with
      | none => simp [dynT, hi] at hd
      | some info =>
       have hcmp : info.comparable = true := by simpa [dynT, hi] using hd
       right
       refine ⟨z, ?_, eqGuard_ok _ _ _ _ _ _ _ (fun h => by cases h) (fun _ _ h => by cases h), binOp_eql (fun _ _ h => by cases h) (fun _ h => by cases h) (fun _ _ h => by cases h) (fun _ _ _ h => by cases h) ?_⟩
       ·show bif' (Nat.beq t1 t1) (bif' (dynT P t1) (eq1C (lkOf P t1) x1 x2 f c) f) (c false) = c z
        rw [htt, hd, bif_true, bif_true, e]
       ·have := hz 9998 w
        rw [eqn_ifeq 9999 ht hi hcmp]
        exact this
    ·right
     have hne : t1 ≠ t2 := fun h => htt (by rw [h]; exact Nat.beq_refl t2)
     refine ⟨false, ?_, eqGuard_ok _ _ _ _ _ _ _ (fun h => by cases h) (fun _ _ h => by cases h), binOp_eql (fun _ _ h => by cases h) (fun _ h => by cases h) (fun _ _ h => by cases h) (fun _ _ _ h => by cases h) ?_⟩
     ·show bif' (Nat.beq t1 t2) (bif' (dynT P t1) (eq1C (lkOf P t1) x1 x2 f c) f) (c false) = _
      rw [eq_false_of_ne_true htt]; rfl
     ·exact eqn_ifne 9999 ht hne _ _
   ·exact .inr ⟨false, rfl, eqGuard_ok _ _ _ _ _ _ _ (fun h => by cases h) (fun _ _ h => by cases h), binOp_eql (fun _ _ h => by cases h) (fun _ h => by cases h) (fun _ _ h => by cases h) (fun _ _ _ h => by cases h) (by first | exact eqn_if00 9999 ht | exact eqn_if01 9999 ht _ _ | exact eqn_if10 9999 ht _ _)⟩
  ·cases hu <;> try exact .inl rfl
   ·exact .inr ⟨false, rfl, eqGuard_ok _ _ _ _ _ _ _ (fun _ h => by cases h) (fun _ _ h => by cases h), binOp_eql (fun _ _ h => by cases h) (fun _ h => by cases h) (fun _ _ h => by cases h) (fun _ _ _ h => by cases h) (by first | exact eqn_if00 9999 ht | exact eqn_if01 9999 ht _ _ | exact eqn_if10 9999 ht _ _)⟩
   ·cases lit
    ·exact .inl rfl
    ·exact .inr ⟨true, rfl, eqGuard_ok _ _ _ _ _ _ _ (fun _ _ => hlit rfl) (fun _ _ h => by cases h), binOp_eql (fun _ _ h => by cases h) (fun _ h => by cases h) (fun _ _ h => by cases h) (fun _ _ _ h => by cases h) (by first | exact eqn_if00 9999 ht | exact eqn_if01 9999 ht _ _ | exact eqn_if10 9999 ht _ _)⟩
end
end Go.Ev
