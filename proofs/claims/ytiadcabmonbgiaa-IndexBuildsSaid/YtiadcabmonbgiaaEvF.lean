/- Operands and the operations that touch no memory. -/
import Derived.Test.YtiadcabmonbgiaaEvE
import Derived.Laws.StructEq
namespace Go.Ev

/-! ### Values taken apart -/
noncomputable def asBoolC {β : Type} (v : AV) (f : β) (c : Bool → β) : β :=
  AV.rec (motive_1 := fun _ => β) (motive_2 := fun _ => Unit) c (fun _ _ => f) (fun _ => f) f (fun _ _ => f) f (fun _ _ _ _ _ _ => f) (fun _ _ _ _ _ => f) f (fun _ _ _ => f) f (fun _ _ => f) (fun _ _ => f) f (fun _ => f) (fun _ => f) f (fun _ => f) () (fun _ _ _ _ => ()) v
noncomputable def asIntC {β : Type} (v : AV) (f : β) (c : IntKind → Int → β) : β :=
  AV.rec (motive_1 := fun _ => β) (motive_2 := fun _ => Unit) (fun _ => f) c (fun _ => f) f (fun _ _ => f) f (fun _ _ _ _ _ _ => f) (fun _ _ _ _ _ => f) f (fun _ _ _ => f) f (fun _ _ => f) (fun _ _ => f) f (fun _ => f) (fun _ => f) f (fun _ => f) () (fun _ _ _ _ => ()) v
noncomputable def asStrC {β : Type} (v : AV) (f : β) (c : List Nat → β) : β :=
  AV.rec (motive_1 := fun _ => β) (motive_2 := fun _ => Unit) (fun _ => f) (fun _ _ => f) c f (fun _ _ => f) f (fun _ _ _ _ _ _ => f) (fun _ _ _ _ _ => f) f (fun _ _ _ => f) f (fun _ _ => f) (fun _ _ => f) f (fun _ => f) (fun _ => f) f (fun _ => f) () (fun _ _ _ _ => ()) v
noncomputable def asPtrC {β : Type} (v : AV) (f : β) (c : K → Nat → β) : β :=
  AV.rec (motive_1 := fun _ => β) (motive_2 := fun _ => Unit) (fun _ => f) (fun _ _ => f) (fun _ => f) f c f (fun _ _ _ _ _ _ => f) (fun _ _ _ _ _ => f) f (fun _ _ _ => f) f (fun _ _ => f) (fun _ _ => f) f (fun _ => f) (fun _ => f) f (fun _ => f) () (fun _ _ _ _ => ()) v
noncomputable def asSliceC {β : Type} (v : AV) (f : β) (cnils : β) (cslice : K → Nat → Nat → Nat → Bool → Nat → β) : β :=
  AV.rec (motive_1 := fun _ => β) (motive_2 := fun _ => Unit) (fun _ => f) (fun _ _ => f) (fun _ => f) f (fun _ _ => f) cnils cslice (fun _ _ _ _ _ => f) f (fun _ _ _ => f) f (fun _ _ => f) (fun _ _ => f) f (fun _ => f) (fun _ => f) f (fun _ => f) () (fun _ _ _ _ => ()) v
noncomputable def asAggC {β : Type} (v : AV) (f : β) (c : List AV → β) : β :=
  AV.rec (motive_1 := fun _ => β) (motive_2 := fun _ => Unit) (fun _ => f) (fun _ _ => f) (fun _ => f) f (fun _ _ => f) f (fun _ _ _ _ _ _ => f) (fun _ _ _ _ _ => f) f (fun _ _ _ => f) f (fun x0 _ => c x0) (fun _ _ => f) f (fun _ => f) (fun _ => f) f (fun _ => f) () (fun _ _ _ _ => ()) v
noncomputable def asTupC {β : Type} (v : AV) (f : β) (c : List AV → β) : β :=
  AV.rec (motive_1 := fun _ => β) (motive_2 := fun _ => Unit) (fun _ => f) (fun _ _ => f) (fun _ => f) f (fun _ _ => f) f (fun _ _ _ _ _ _ => f) (fun _ _ _ _ _ => f) f (fun _ _ _ => f) f (fun _ _ => f) (fun x0 _ => c x0) f (fun _ => f) (fun _ => f) f (fun _ => f) () (fun _ _ _ _ => ()) v
noncomputable def asFnC {β : Type} (v : AV) (f : β) (c : Fn → List AV → List AV → β) : β :=
  AV.rec (motive_1 := fun _ => β) (motive_2 := fun _ => Unit) (fun _ => f) (fun _ _ => f) (fun _ => f) f (fun _ _ => f) f (fun _ _ _ _ _ _ => f) (fun x0 x1 x2 _ _ => c x0 x1 x2) f (fun _ _ _ => f) f (fun _ _ => f) (fun _ _ => f) f (fun _ => f) (fun _ => f) f (fun _ => f) () (fun _ _ _ _ => ()) v
noncomputable def asIfaceC {β : Type} (v : AV) (f : β) (ciface : TypeId → AV → β) (cnili : β) : β :=
  AV.rec (motive_1 := fun _ => β) (motive_2 := fun _ => Unit) (fun _ => f) (fun _ _ => f) (fun _ => f) f (fun _ _ => f) f (fun _ _ _ _ _ _ => f) (fun _ _ _ _ _ => f) f (fun x0 x1 _ => ciface x0 x1) cnili (fun _ _ => f) (fun _ _ => f) f (fun _ => f) (fun _ => f) f (fun _ => f) () (fun _ _ _ _ => ()) v
noncomputable def asMapC {β : Type} (v : AV) (f : β) (cnilm : β) (cmap : K → β) : β :=
  AV.rec (motive_1 := fun _ => β) (motive_2 := fun _ => Unit) (fun _ => f) (fun _ _ => f) (fun _ => f) f (fun _ _ => f) f (fun _ _ _ _ _ _ => f) (fun _ _ _ _ _ => f) f (fun _ _ _ => f) f (fun _ _ => f) (fun _ _ => f) cnilm cmap (fun _ => f) f (fun _ => f) () (fun _ _ _ _ => ()) v
noncomputable def asTypC {β : Type} (v : AV) (f : β) (c : TypeId → β) : β :=
  AV.rec (motive_1 := fun _ => β) (motive_2 := fun _ => Unit) (fun _ => f) (fun _ _ => f) (fun _ => f) f (fun _ _ => f) f (fun _ _ _ _ _ _ => f) (fun _ _ _ _ _ => f) f (fun _ _ _ => f) f (fun _ _ => f) (fun _ _ => f) f (fun _ => f) c f (fun _ => f) () (fun _ _ _ _ => ()) v
noncomputable def asPtrN {β : Type} (v : AV) (f : β) (cnilp : β) (cptr : K → Nat → β) : β :=
  AV.rec (motive_1 := fun _ => β) (motive_2 := fun _ => Unit) (fun _ => f) (fun _ _ => f) (fun _ => f) cnilp cptr f (fun _ _ _ _ _ _ => f) (fun _ _ _ _ _ => f) f (fun _ _ _ => f) f (fun _ _ => f) (fun _ _ => f) f (fun _ => f) (fun _ => f) f (fun _ => f) () (fun _ _ _ _ => ()) v
noncomputable def asFnN {β : Type} (v : AV) (f : β) (cfn : Fn → List AV → List AV → β) (cnilf : β) : β :=
  AV.rec (motive_1 := fun _ => β) (motive_2 := fun _ => Unit) (fun _ => f) (fun _ _ => f) (fun _ => f) f (fun _ _ => f) f (fun _ _ _ _ _ _ => f) (fun x0 x1 x2 _ _ => cfn x0 x1 x2) cnilf (fun _ _ _ => f) f (fun _ _ => f) (fun _ _ => f) f (fun _ => f) (fun _ => f) f (fun _ => f) () (fun _ _ _ _ => ()) v
noncomputable def asGeqC {β : Type} (v : AV) (f : β) (c : Nat → β) : β :=
  AV.rec (motive_1 := fun _ => β) (motive_2 := fun _ => Unit) (fun _ => f) (fun _ _ => f) (fun _ => f) f (fun _ _ => f) f (fun _ _ _ _ _ _ => f) (fun _ _ _ _ _ => f) f (fun _ _ _ => f) f (fun _ _ => f) (fun _ _ => f) f (fun _ => f) (fun _ => f) f c () (fun _ _ _ _ => ()) v

/-! ### Constants and operands -/

def ofScalar : Value → Option AV
  | .bool b => some (.bool b)
  | .int k n => some (.int k n)
  | .string s => some (.str (s.data.toList.map (·.toNat)))
  | .pointer none => some .nilp
  | .slice none l c => if l = 0 ∧ c = 0 then some .nils else none
  | .nilFunc => some .nilf
  | .nilIface => some .nili
  | .map none => some .nilm
  | .func (.func f) a b => if a.toList.isEmpty ∧ b.toList.isEmpty then some (.fn (.func f) [] []) else none
  | _ => none
def ofScalars : List Value → Option (List AV)
  | [] => some []
  | v :: l => (ofScalar v).bind fun x => (ofScalars l).map fun r => x :: r
def ofValue : Value → Option AV
  | .agg c => (ofScalars c.toList).map .agg
  | .tuple c => if c.toList.isEmpty then some (.tup []) else none
  | .iface t (.agg c) => (ofScalars c.toList).map fun l => .iface t (.agg l)
  | .iface t v => (ofScalar v).map (.iface t)
  | v => ofScalar v

variable {P : Program} {φ : Phi}

theorem ofScalar_sound {v : Value} {x : AV} (h : ofScalar v = some x) : VRel P φ x v ∧ v.oneCell' = true := by
  unfold ofScalar at h
  split at h <;> first
    | (cases h; exact ⟨by constructor; try rfl, rfl⟩)
    | (split at h
       · rename_i h0
         cases h
         obtain ⟨h1, h2⟩ := h0
         first
           | (subst h1 h2; exact ⟨.nils, rfl⟩)
           | (refine ⟨.fn _ _ _ _ _ ?_ ?_, rfl⟩
              · rw [List.isEmpty_iff.1 h1]; exact .nil
              · rw [List.isEmpty_iff.1 h2]; exact .nil)
       · cases h)
    | cases h
theorem ofScalars_sound : ∀ {l : List Value} {x : List AV}, ofScalars l = some x → VRels P φ x l ∧ ∀ v ∈ l, v.oneCell' = true
  | [], _, h => by cases h; exact ⟨.nil, by simp⟩
  | v :: l, x, h => by
    simp only [ofScalars] at h
    cases h1 : ofScalar v with
    | none => simp [h1] at h
    | some y =>
      cases h2 : ofScalars l with
      | none => simp [h1, h2] at h
      | some r =>
        simp [h1, h2] at h
        subst h
        have a := ofScalar_sound (P := P) (φ := φ) h1
        have b := ofScalars_sound h2
        exact ⟨.cons _ _ _ _ a.1 b.1, by simpa using ⟨a.2, b.2⟩⟩
theorem ofValue_sound {v : Value} {x : AV} (h : ofValue v = some x) : VRel P φ x v := by
  unfold ofValue at h
  split at h
  · cases h1 : ofScalars _ with
    | none => rw [h1] at h; cases h
    | some r => rw [h1] at h; cases h; have := ofScalars_sound (P := P) (φ := φ) h1; exact .agg _ _ this.1 this.2
  · split at h
    · rename_i c h0; cases h; refine .tup _ _ ?_; rw [List.isEmpty_iff.1 h0]; exact .nil
    · cases h
  · cases h1 : ofScalars _ with
    | none => rw [h1] at h; cases h
    | some r => rw [h1] at h; cases h; have := ofScalars_sound (P := P) (φ := φ) h1; exact .iface _ _ _ (.agg _ _ this.1 this.2)
  · cases h1 : ofScalar _ with
    | none => rw [h1] at h; cases h
    | some r => rw [h1] at h; cases h; exact .iface _ _ _ (ofScalar_sound h1).1
  · exact (ofScalar_sound h).1

inductive X where
  | t (k : K)
  | c (v : AV)

noncomputable def cX : Operand → Option X
  | .tmp t => some (.t (keyOf t))
  | .const v => (ofValue v).map .c
  | .global _ => none
  | .func f => some (.c (.fn (.func f) [] []))
noncomputable def cXs : List Operand → Option (List X)
  | [] => some []
  | x :: l => (cX x).bind fun y => (cXs l).map fun r => y :: r

noncomputable def evX (T : Tr AV) (x : X) : Option AV := X.rec (motive := fun _ => Option AV) (fun k => T.get k) (fun v => some v) x
noncomputable def withX {β : Type} (T : Tr AV) (x : X) (f : β) (c : AV → β) : β := Option.rec (motive := fun _ => β) f (fun v => c v) (evX T x)
noncomputable def withXs {β : Type} (T : Tr AV) (l : List X) (f : β) : (List AV → β) → β :=
  List.rec (motive := fun _ => (List AV → β) → β) (fun c => c []) (fun x _ ih c => withX T x f fun v => ih fun r => c (v :: r)) l
theorem withX_eq {β : Type} (T : Tr AV) (x : X) (f : β) (c : AV → β) : (evX T x = none ∧ withX T x f c = f) ∨ ∃ v, evX T x = some v ∧ withX T x f c = c v := by
  unfold withX
  cases h : evX T x with
  | none => exact .inl ⟨rfl, rfl⟩
  | some v => exact .inr ⟨v, rfl, rfl⟩

/-- the slots of a call, against the model's -/
structure TRel (P : Program) (φ : Phi) (N : Nat) (T : Tr AV) (tmps : Array Value) : Prop where
  size : tmps.size = N
  get : ∀ t v, T.get (keyOf t) = some v → ∃ v', tmps[t]? = some v' ∧ VRel P φ v v'

/-- as far as the slots in a list are asked for -/
def TRelAt (P : Program) (φ : Phi) (T : Tr AV) (tmps : Array Value) (ts : Nat → Prop) : Prop :=
  ∀ t v, ts t → T.get (keyOf t) = some v → ∃ v', tmps[t]? = some v' ∧ VRel P φ v v'

def tmpsOf (l : List Operand) : List Nat := l.filterMap fun | .tmp t => some t | _ => none

theorem evX_sound {T : Tr AV} {a : Act} {o : Operand} {x : X} {v : AV} (ht : TRelAt P φ T a.tmps (· ∈ tmpsOf [o])) (hc : cX o = some x) (h : evX T x = some v) : VRel P φ v (a.eval o) := by
  cases o with
  | tmp t =>
    simp only [cX, Option.some.injEq] at hc; subst hc
    obtain ⟨v', h1, h2⟩ := ht t v (by simp [tmpsOf]) h
    have : a.eval (.tmp t) = v' := by simp only [Act.eval, Array.getD_eq_getD_getElem?, h1, Option.getD_some]
    rw [this]; exact h2
  | const c =>
    simp only [cX] at hc
    cases h1 : ofValue c with
    | none => rw [h1] at hc; cases hc
    | some r => rw [h1] at hc; cases hc; cases h; exact ofValue_sound h1
  | global g => cases hc
  | func f =>
    simp only [cX, Option.some.injEq] at hc; subst hc
    cases h
    exact .fn _ _ _ _ _ .nil .nil

theorem TRelAt.sub {T : Tr AV} {tmps : Array Value} {p q : Nat → Prop} (h : TRelAt P φ T tmps q) (hs : ∀ t, p t → q t) : TRelAt P φ T tmps p := fun t v hp => h t v (hs t hp)

theorem withXs_sound {β : Type} {T : Tr AV} {a : Act} (f : β) : ∀ {l : List Operand} {xs : List X} (c : List AV → β), TRelAt P φ T a.tmps (· ∈ tmpsOf l) → cXs l = some xs →
    withXs T xs f c = f ∨ ∃ vs, withXs T xs f c = c vs ∧ VRels P φ vs (l.map a.eval)
  | [], xs, c, _, h => by cases h; exact .inr ⟨[], rfl, .nil⟩
  | o :: l, xs, c, ht, h => by
    simp only [cXs] at h
    cases h1 : cX o with
    | none => simp [h1] at h
    | some x =>
      cases h2 : cXs l with
      | none => simp [h1, h2] at h
      | some r =>
        simp [h1, h2] at h
        subst h
        show withX T x f (fun v => withXs T r f fun s => c (v :: s)) = f ∨ _
        rcases withX_eq T x f (fun v => withXs T r f fun s => c (v :: s)) with ⟨_, e⟩ | ⟨v, hv, e⟩
        · exact .inl e
        · have hv' := evX_sound (P := P) (φ := φ) (ht.sub fun t ht => by simp only [tmpsOf, List.filterMap_cons, List.filterMap_nil] at ht ⊢; split at ht <;> simp_all) h1 hv
          rcases withXs_sound f (fun s => c (v :: s)) (ht.sub fun t ht => by simp only [tmpsOf, List.filterMap_cons] at ht ⊢; split <;> simp_all) h2 with e2 | ⟨vs, e2, hs⟩
          · exact .inl (e.trans e2)
          · exact .inr ⟨v :: vs, e.trans e2, .cons _ _ _ _ hv' hs⟩

/-! ### What an operation comes to -/

inductive R1 where
  | fail
  | val (v : AV) (H : Heap)
  | call (f : FuncId) (args : List AV)

/-- The model's run does what was reckoned. -/
inductive Ran (P : Program) (φ : Phi) (H : Heap) (w : World) (s : Sem Next) : R1 → Prop
  | fail : Ran P φ H w s .fail
  | val (v : AV) (G : Heap) (nx : Next) (v' : Value) (u : World) (ψ : Phi) (hr : s.run P w = .ok nx u) (hn : nx = .value v' ∨ (nx = .skip ∧ v' = undef))
      (hw : WRel P ψ G u) (he : Ext φ H w ψ G u) (hv : VRel P ψ v v') : Ran P φ H w s (.val v G)
  | call (f : FuncId) (args : List AV) (args' : Array Value) (hr : s.run P w = .ok (.enter f args') w) (ha : VRels P φ args args'.toList) : Ran P φ H w s (.call f args)

theorem Ran.pure {H : Heap} {w : World} {s : Sem Next} {v : AV} {v' : Value} (hw : WRel P φ H w) (hr : s.run P w = .ok (.value v') w) (hv : VRel P φ v v') : Ran P φ H w s (.val v H) :=
  .val v H _ v' w φ hr (.inl rfl) hw (Ext.refl _ _ _) hv

/-- The model's run does what was reckoned, and leaves memory alone. -/
inductive Ran0 (P : Program) (φ : Phi) (H : Heap) (w : World) (s : Sem Next) : R1 → Prop
  | fail : Ran0 P φ H w s .fail
  | pure {v : AV} {v' : Value} (hw : WRel P φ H w) (hr : s.run P w = .ok (.value v') w) (hv : VRel P φ v v') : Ran0 P φ H w s (.val v H)
theorem Ran0.up {H : Heap} {w : World} {s : Sem Next} {r : R1} (h : Ran0 P φ H w s r) : Ran P φ H w s r := by
  cases h with
  | fail => exact .fail
  | pure hw hr hv => exact .pure hw hr hv

/-- the shape 'a value' of execOp -/
theorem run_v {w u : World} {s : Sem Value} {v : Value} (h : s.run P w = .ok v u) : (do return Next.value (← s) : Sem Next).run P w = .ok (.value v) u := by
  simp only [Sem.run_bind, h, Result.andThen_ok]; rfl
theorem run_u {w u : World} {s : Sem Unit} (h : s.run P w = .ok () u) : (do s; return Next.skip : Sem Next).run P w = .ok .skip u := by
  simp only [Sem.run_bind, h, Result.andThen_ok]; rfl

end Go.Ev
