/- Statements: regions in the text's order, branches, loops, calls: the evaluator whole. -/
import Derived.Test.YtiadcabmonbgiaaEvQ
namespace Go.Ev
variable {P : Program} {φ : Phi} {H : Heap} {w u : World} {T : Tr AV} {a : Act}

inductive Ex where
  | norm
  | exit (n : Nat)
  | ret
inductive Res where
  | fail
  | ok (e : Ex) (T : Tr AV) (H : Heap)
inductive RC where
  | fail
  | ok (v : AV) (H : Heap)

/-! ### Guards -/
inductive Gd where
  | no
  | on (k : K) (want : Bool)
noncomputable def eqB (a b : Bool) : Bool := bif' a b (Bool.not b)
noncomputable def gdC {β : Type} (T : Tr AV) (gd : Gd) (f yes no : β) : β :=
  Gd.rec (motive := fun _ => β) yes (fun k want => Option.rec (motive := fun _ => β) f (fun v => asBoolC v (asTupC v f fun _ => no) fun b => bif' (eqB b want) yes no) (T.get k)) gd
noncomputable def gdOf (ops : Array Oper) (o : Oper) : Option Gd := match o.guard with
  | none => some .no
  | some (j, want) => ((ops[j]?).bind (·.dst)).map fun d => .on (keyOf d) want
/-- the slot that a guard looks at -/
def gdTmp (ops : Array Oper) (o : Oper) : List Nat := match o.guard with
  | none => []
  | some (j, _) => ((ops[j]?).bind (·.dst)).toList

theorem gdC_sound {β : Type} {ops : Array Oper} {o : Oper} {gd : Gd} (h : gdOf ops o = some gd) (ht : TRelAt P φ T a.tmps (· ∈ gdTmp ops o)) (f yes no : β) :
    gdC T gd f yes no = f ∨ (gdC T gd f yes no = yes ∧ Region.wanted o (yielded ops a.tmps) = true) ∨ (gdC T gd f yes no = no ∧ Region.wanted o (yielded ops a.tmps) = false) := by
  unfold gdOf at h
  split at h
  · rename_i hg
    cases h
    exact .inr (.inl ⟨rfl, by simp [Region.wanted, hg]⟩)
  · rename_i j want hg
    obtain ⟨d, hd, rfl⟩ := map_some h
    show Option.rec (motive := fun _ => β) f (fun v => asBoolC v (asTupC v f fun _ => no) fun b => bif' (eqB b want) yes no) (T.get (keyOf d)) = f ∨ _
    cases hv : T.get (keyOf d) with
    | none => exact .inl rfl
    | some v =>
      obtain ⟨v', h1, h2⟩ := ht d v (by simp [gdTmp, hg, hd]) hv
      have hy : yielded ops a.tmps j = match v' with | .bool b => some b | _ => none := by
        unfold yielded
        rw [hd]
        simp only [Option.bind_some, h1]
        cases v' <;> rfl
      have hw : Region.wanted o (yielded ops a.tmps) = (yielded ops a.tmps j == some want) := by simp [Region.wanted, hg]
      cases h2 <;> try exact .inl rfl
      · rename_i b
        have hb : gdC T (.on (keyOf d) want) f yes no = bif' (eqB b want) yes no := by
          show Option.rec (motive := fun _ => β) f (fun v => asBoolC v (asTupC v f fun _ => no) fun b => bif' (eqB b want) yes no) (T.get (keyOf d)) = _
          rw [hv]; rfl
        rw [hw, hy]
        right
        cases b <;> cases want <;> first | exact .inl ⟨hb, rfl⟩ | exact .inr ⟨hb, rfl⟩
      · right; right
        refine ⟨?_, by rw [hw, hy]; rfl⟩
        show Option.rec (motive := fun _ => β) f (fun v => asBoolC v (asTupC v f fun _ => no) fun b => bif' (eqB b want) yes no) (T.get (keyOf d)) = _
        rw [hv]; rfl

/-! ### One step of a region -/
noncomputable def putT {β : Type} (T : Tr AV) (dst : Option K) (v : AV) (c : Tr AV → β) : β := Option.rec (motive := fun _ => β) (c T) (fun k => T.setC k (some v) c) dst
def putS (T : Tr AV) (dst : Option K) (v : AV) (T' : Tr AV) : Prop := ∀ j, T'.get j = if dst = some j then some v else T.get j
theorem putT_eq {β : Type} (T : Tr AV) (dst : Option K) (v : AV) (c : Tr AV → β) : ∃ T', putT T dst v c = c T' ∧ putS T dst v T' := by
  cases dst with
  | none => exact ⟨T, rfl, fun j => by simp⟩
  | some k =>
    refine ⟨T.set k (some v), Tr.setC_eq _ _ _ _, fun j => ?_⟩
    rw [Tr.get_set]
    simp

inductive Rk where
  | mk (g : Clo) (dst : Option K) (gd : Gd)
inductive Stp where
  | mk (g : Clo) (dst : Option K) (gd : Gd) (re : List Rk)

/-- the slots, against the model's -/
structure TR (P : Program) (φ : Phi) (N : Nat) (T : Tr AV) (tmps : Array Value) : Prop where
  size : N ≤ tmps.size
  get : ∀ t v, T.get (keyOf t) = some v → ∃ v', tmps[t]? = some v' ∧ VRel P φ v v'
theorem TR.at {N : Nat} {tmps : Array Value} (h : TR P φ N T tmps) (p : Nat → Prop) : TRelAt P φ T tmps p := fun t v _ hv => h.get t v hv
theorem TR.mono {N : Nat} {ψ : Phi} {tmps : Array Value} (hl : φ.le ψ) (h : TR P φ N T tmps) : TR P ψ N T tmps := ⟨h.size, fun t v hv => let ⟨v', h1, h2⟩ := h.get t v hv; ⟨v', h1, h2.mono hl⟩⟩
theorem TR.put {N : Nat} {d : Option Tmp} {v : AV} {v' : Value} {T' : Tr AV} (h : TR P φ N T a.tmps) (hd : ∀ x, d = some x → x < N) (hv : VRel P φ v v') (hp : putS T (d.map keyOf) v T') : TR P φ N T' (a.put d v').tmps := by
  cases d with
  | none =>
    refine ⟨h.size, fun t x hx => ?_⟩
    rw [hp] at hx
    simp only [Option.map_none, reduceCtorEq, if_false] at hx
    exact h.get t x hx
  | some d =>
    have hlt : (d : Nat) < N := hd d rfl
    have hsz := h.size
    refine ⟨by simp only [Act.put, Array.size_setIfInBounds]; exact hsz, fun t x hx => ?_⟩
    rw [hp] at hx
    simp only [Option.map_some, Option.some.injEq] at hx
    by_cases e : keyOf d = keyOf t
    · rw [if_pos e] at hx
      cases hx
      have := keyOf_inj e; subst this
      refine ⟨v', ?_, hv⟩
      simp only [Act.put, Array.getElem?_setIfInBounds]
      rw [if_pos trivial, if_pos (Nat.lt_of_lt_of_le hlt hsz)]
    · rw [if_neg e] at hx
      obtain ⟨x', h1, h2⟩ := h.get t x hx
      refine ⟨x', ?_, h2⟩
      simp only [Act.put, Array.getElem?_setIfInBounds]
      rw [if_neg (fun e2 => e (by rw [e2])), h1]

section
variable {β : Type}
/-- what lies in the slot is v -/
noncomputable def isC (eqv : AV → AV → Bool) (T : Tr AV) (dst : Option K) (v : AV) (f c : β) : β :=
  Option.rec (motive := fun _ => β) c (fun k => Option.rec (motive := fun _ => β) f (fun u => bif' (eqv v u) c f) (T.get k)) dst
/-- looked at again: what was read then is what is read now -/
noncomputable def reC (eqv : AV → AV → Bool) (T : Tr AV) (H : Heap) (re : List Rk) (f c : β) : β :=
  List.rec (motive := fun _ => β) c (fun r _ ih => Rk.rec (motive := fun _ => β) (fun g k gd => gdC T gd f (R1.rec (motive := fun _ => β) f (fun v _ => isC eqv T k v f ih) (fun _ _ => f) (g T H)) (isC eqv T k (.tup []) f ih)) r) re
noncomputable def stepC (eqv : AV → AV → Bool) (E : FuncId → List AV → Heap → RC) (st : Stp) (T : Tr AV) (H : Heap) (f : β) (c : Tr AV → Heap → β) : β :=
  Stp.rec (motive := fun _ => β) (fun g dst gd re => gdC T gd f
    (R1.rec (motive := fun _ => β) f (fun v G => putT T dst v fun T => reC eqv T G re f (c T G)) (fun fn args => RC.rec (motive := fun _ => β) f (fun v G => putT T dst v fun T => reC eqv T G re f (c T G)) (E fn args H)) (g T H))
    (putT T dst (.tup []) fun T => c T H)) st
noncomputable def stepsC (eqv : AV → AV → Bool) (E : FuncId → List AV → Heap → RC) (l : List Stp) : Tr AV → Heap → β → (Tr AV → Heap → β) → β :=
  List.rec (motive := fun _ => Tr AV → Heap → β → (Tr AV → Heap → β) → β) (fun T H _ c => c T H) (fun st _ ih T H f c => stepC eqv E st T H f fun T H => ih T H f c) l
end


/-! The same, its answer as a value: what was handed on. -/
theorem gdC_sel (T : Tr AV) (gd : Gd) : (∀ {β : Type} (f yes no : β), gdC T gd f yes no = f) ∨ (∀ {β : Type} (f yes no : β), gdC T gd f yes no = yes) ∨ (∀ {β : Type} (f yes no : β), gdC T gd f yes no = no) := by
  cases gd with
  | no => exact .inr (.inl fun _ _ _ => rfl)
  | on k want =>
    cases hv : T.get k with
    | none =>
      left; intro β f yes no
      show Option.rec (motive := fun _ => β) f (fun v => asBoolC v (asTupC v f fun _ => no) fun b => bif' (eqB b want) yes no) (T.get k) = _
      rw [hv]
    | some v =>
      have hgd : ∀ {β : Type} (f yes no : β), gdC T (.on k want) f yes no = asBoolC v (asTupC v f fun _ => no) fun b => bif' (eqB b want) yes no := by
        intro β f yes no
        show Option.rec (motive := fun _ => β) f (fun v => asBoolC v (asTupC v f fun _ => no) fun b => bif' (eqB b want) yes no) (T.get k) = _
        rw [hv]
      cases v <;> first
        | (left; intro β f yes no; rw [hgd]; rfl)
        | (right; right; intro β f yes no; rw [hgd]; rfl)
        | skip
      rename_i b
      cases hb : eqB b want
      · right; right; intro β f yes no; rw [hgd]; show bif' (eqB b want) yes no = no; rw [hb]; rfl
      · right; left; intro β f yes no; rw [hgd]; show bif' (eqB b want) yes no = yes; rw [hb]; rfl
theorem putT_sel (T : Tr AV) (dst : Option K) (v : AV) : ∃ T', putS T dst v T' ∧ ∀ {β : Type} (c : Tr AV → β), putT T dst v c = c T' := by
  cases dst with
  | none => exact ⟨T, fun j => by simp, fun c => rfl⟩
  | some k => exact ⟨T.set k (some v), fun j => by rw [Tr.get_set]; simp, fun c => Tr.setC_eq _ _ _ _⟩
/-- What a slot holds, by its very value. -/
def Holds (eqv : AV → AV → Bool) (T : Tr AV) (dst : Option K) (v : AV) : Prop := ∀ k, dst = some k → ∃ u, T.get k = some u ∧ eqv v u = true
theorem isC_sel (eqv : AV → AV → Bool) (T : Tr AV) (dst : Option K) (v : AV) : (∀ {β : Type} (f c : β), isC eqv T dst v f c = f) ∨ (Holds eqv T dst v ∧ ∀ {β : Type} (f c : β), isC eqv T dst v f c = c) := by
  cases dst with
  | none => exact .inr ⟨fun k h => (by cases h), fun f c => rfl⟩
  | some k =>
    have hrw : ∀ {β : Type} (f c : β), isC eqv T (some k) v f c = Option.rec (motive := fun _ => β) f (fun u => bif' (eqv v u) c f) (T.get k) := fun f c => rfl
    cases hk : T.get k with
    | none => left; intro β f c; rw [hrw, hk]
    | some u =>
      cases he : eqv v u
      · left; intro β f c; rw [hrw, hk]; show bif' (eqv v u) c f = f; rw [he]; rfl
      · refine .inr ⟨fun k' e => by cases e; exact ⟨u, hk, he⟩, fun {β} f c => ?_⟩
        rw [hrw, hk]; show bif' (eqv v u) c f = c; rw [he]; rfl
/-- What was seen when it was looked at again. -/
def Seen (eqv : AV → AV → Bool) (T : Tr AV) (H : Heap) : Rk → Prop
  | .mk g k gd => ((∀ {β : Type} (f yes no : β), gdC T gd f yes no = yes) ∧ ∃ v G, g T H = .val v G ∧ Holds eqv T k v) ∨ ((∀ {β : Type} (f yes no : β), gdC T gd f yes no = no) ∧ Holds eqv T k (.tup []))
theorem reC_sel (eqv : AV → AV → Bool) (T : Tr AV) (H : Heap) : ∀ (re : List Rk), (∀ {β : Type} (f c : β), reC eqv T H re f c = f) ∨ ((∀ r ∈ re, Seen eqv T H r) ∧ ∀ {β : Type} (f c : β), reC eqv T H re f c = c)
  | [] => .inr ⟨fun r h => by simp at h, fun f c => rfl⟩
  | .mk g k gd :: re => by
    have hrw : ∀ {β : Type} (f c : β), reC eqv T H (.mk g k gd :: re) f c = gdC T gd f (R1.rec (motive := fun _ => β) f (fun v _ => isC eqv T k v f (reC eqv T H re f c)) (fun _ _ => f) (g T H)) (isC eqv T k (.tup []) f (reC eqv T H re f c)) := fun f c => rfl
    rcases gdC_sel T gd with h | h | h
    · left; intro β f c; rw [hrw, h]
    · cases hg : g T H with
      | fail => left; intro β f c; rw [hrw, h, hg]
      | call _ _ => left; intro β f c; rw [hrw, h, hg]
      | val v G =>
        rcases isC_sel eqv T k v with h1 | ⟨hh, h1⟩
        · left; intro β f c; rw [hrw, h, hg]; exact h1 _ _
        · rcases reC_sel eqv T H re with h2 | ⟨hs, h2⟩
          · left; intro β f c; rw [hrw, h, hg]; show isC eqv T k v f _ = f; rw [h1, h2]
          · refine .inr ⟨fun r hr => ?_, fun {β} f c => by rw [hrw, h, hg]; show isC eqv T k v f _ = c; rw [h1, h2]⟩
            rcases List.mem_cons.1 hr with rfl | hr
            · exact .inl ⟨h, v, G, hg, hh⟩
            · exact hs r hr
    · rcases isC_sel eqv T k (.tup []) with h1 | ⟨hh, h1⟩
      · left; intro β f c; rw [hrw, h, h1]
      · rcases reC_sel eqv T H re with h2 | ⟨hs, h2⟩
        · left; intro β f c; rw [hrw, h, h1, h2]
        · refine .inr ⟨fun r hr => ?_, fun {β} f c => by rw [hrw, h, h1, h2]⟩
          rcases List.mem_cons.1 hr with rfl | hr
          · exact .inr ⟨h, hh⟩
          · exact hs r hr

noncomputable def stepR (eqv : AV → AV → Bool) (E : FuncId → List AV → Heap → RC) (st : Stp) (T : Tr AV) (H : Heap) : Option (Tr AV × Heap) := stepC eqv E st T H none fun T H => some (T, H)
noncomputable def stepsR (eqv : AV → AV → Bool) (E : FuncId → List AV → Heap → RC) (l : List Stp) (T : Tr AV) (H : Heap) : Option (Tr AV × Heap) := stepsC eqv E l T H none fun T H => some (T, H)
theorem stepC_eq {β : Type} (eqv : AV → AV → Bool) (E : FuncId → List AV → Heap → RC) (st : Stp) (T : Tr AV) (H : Heap) (f : β) (c : Tr AV → Heap → β) : stepC eqv E st T H f c = match stepR eqv E st T H with | some (T, H) => c T H | none => f := by
  obtain ⟨g, dst, gd, re⟩ := st
  have hrw : ∀ {γ : Type} (f : γ) (c : Tr AV → Heap → γ), stepC eqv E (.mk g dst gd re) T H f c = gdC T gd f
    (R1.rec (motive := fun _ => γ) f (fun v G => putT T dst v fun T => reC eqv T G re f (c T G)) (fun fn args => RC.rec (motive := fun _ => γ) f (fun v G => putT T dst v fun T => reC eqv T G re f (c T G)) (E fn args H)) (g T H))
    (putT T dst (.tup []) fun T => c T H) := fun f c => rfl
  unfold stepR
  rw [hrw, hrw]
  rcases gdC_sel T gd with h | h | h <;> rw [h, h]
  · cases g T H with
    | fail => rfl
    | val v G =>
      obtain ⟨T', _, hp⟩ := putT_sel T dst v
      show putT T dst v _ = match putT T dst v _ with | some (T, H) => c T H | none => f
      rw [hp, hp]
      rcases reC_sel eqv T' G re with h2 | ⟨_, h2⟩ <;> rw [h2, h2]
    | call fn args =>
      show RC.rec (motive := fun _ => β) f _ (E fn args H) = match (RC.rec (motive := fun _ => Option (Tr AV × Heap)) none _ (E fn args H) : Option (Tr AV × Heap)) with | some (T, H) => c T H | none => f
      cases E fn args H with
      | fail => rfl
      | ok v G =>
        obtain ⟨T', _, hp⟩ := putT_sel T dst v
        show putT T dst v _ = match putT T dst v _ with | some (T, H) => c T H | none => f
        rw [hp, hp]
        rcases reC_sel eqv T' G re with h2 | ⟨_, h2⟩ <;> rw [h2, h2]
  · obtain ⟨T', _, hp⟩ := putT_sel T dst (.tup [])
    rw [hp, hp]
theorem stepsC_eq {β : Type} (eqv : AV → AV → Bool) (E : FuncId → List AV → Heap → RC) : ∀ (l : List Stp) (T : Tr AV) (H : Heap) (f : β) (c : Tr AV → Heap → β), stepsC eqv E l T H f c = match stepsR eqv E l T H with | some (T, H) => c T H | none => f
  | [], T, H, f, c => rfl
  | st :: l, T, H, f, c => by
    have h1 : ∀ {γ : Type} (f : γ) (c : Tr AV → Heap → γ), stepsC eqv E (st :: l) T H f c = stepC eqv E st T H f fun T H => stepsC eqv E l T H f c := fun f c => rfl
    unfold stepsR
    rw [h1, h1, stepC_eq, stepC_eq]
    cases stepR eqv E st T H with
    | none => rfl
    | some p => exact stepsC_eq eqv E l p.1 p.2 f c
theorem stepsR_cons (eqv : AV → AV → Bool) (E : FuncId → List AV → Heap → RC) (st : Stp) (l : List Stp) (T : Tr AV) (H : Heap) : stepsR eqv E (st :: l) T H = match stepR eqv E st T H with | some (T, H) => stepsR eqv E l T H | none => none := by
  have : stepsR eqv E (st :: l) T H = stepC eqv E st T H none fun T H => stepsC eqv E l T H none fun T H => some (T, H) := rfl
  rw [this, stepC_eq]
  rfl

/-- What is known of a call that is reckoned. -/
def Good (P : Program) (E : FuncId → List AV → Heap → RC) : Prop :=
  ∀ f args H v G, E f args H = .ok v G → ∀ (φ : Phi) (w : World) (args' : Array Value), VRels P φ args args'.toList → WRel P φ H w →
    Calls P f args' w fun e u => ∃ ψ v', e = .returned v' ∧ VRel P ψ v v' ∧ WRel P ψ G u ∧ Ext φ H w ψ G u

/-- a step without anything looked at again -/
noncomputable def stpOf (P : Program) (ops : Array Oper) (o : Oper) : Option Stp := (cop P o).bind fun g => (gdOf ops o).map fun gd => .mk g (o.dst.map keyOf) gd []

/-- what a region ends in -/
structure At2 (P : Program) (φ : Phi) (H : Heap) (w : World) (N : Nat) (T' : Tr AV) (H' : Heap) (a : Act) (u : World) : Prop where
  defers : a.defers = []
  rel : ∃ ψ, TR P ψ N T' a.tmps ∧ WRel P ψ H' u ∧ Ext φ H w ψ H' u

theorem At2.trans {ψ : Phi} {G : Heap} {N : Nat} {T' : Tr AV} {H' : Heap} {v : World} (he : Ext φ H w ψ G u) (h : At2 P ψ G u N T' H' a v) : At2 P φ H w N T' H' a v :=
  ⟨h.defers, let ⟨χ, x, y, z⟩ := h.rel; ⟨χ, x, y, he.trans z⟩⟩

/-- ONE OPERATION, run where it is wanted, handed on to whatever comes behind it. -/
theorem op_sound {E : FuncId → List AV → Heap → RC} (hE : Good P E) {eqv : AV → AV → Bool} {ops : Array Oper} {Q : Exit → Act → World → Prop} {N : Nat} {i : Nat} {o : Oper} (ho : ops[i]? = some o) {st : Stp} (hst : stpOf P ops o = some st) (hd : ∀ d, o.dst = some d → d < N)
    (hw : WRel P φ H w) (ht : TR P φ N T a.tmps) (hdef : a.defers = []) {T' : Tr AV} {H' : Heap} (h : stepR eqv E st T H = some (T', H')) {next : Act → World → Prop} (hn : ∀ a' u, At2 P φ H w N T' H' a' u → next a' u) : wpOp P ops Q i next a w := by
  unfold stpOf at hst
  obtain ⟨g, hg, hst⟩ := bind_some hst
  obtain ⟨gd, hgd, rfl⟩ := map_some hst
  have hrw : stepR eqv E (.mk g (o.dst.map keyOf) gd []) T H = gdC T gd none (R1.rec (motive := fun _ => Option (Tr AV × Heap)) none (fun v G => putT T (o.dst.map keyOf) v fun T => some (T, G)) (fun fn args => RC.rec (motive := fun _ => Option (Tr AV × Heap)) none (fun v G => putT T (o.dst.map keyOf) v fun T => some (T, G)) (E fn args H)) (g T H)) (putT T (o.dst.map keyOf) (.tup []) fun T => some (T, H)) := rfl
  rw [hrw] at h
  rcases gdC_sound hgd (ht.at _) (none : Option (Tr AV × Heap)) (R1.rec (motive := fun _ => Option (Tr AV × Heap)) none (fun v G => putT T (o.dst.map keyOf) v fun T => some (T, G)) (fun fn args => RC.rec (motive := fun _ => Option (Tr AV × Heap)) none (fun v G => putT T (o.dst.map keyOf) v fun T => some (T, G)) (E fn args H)) (g T H)) (putT T (o.dst.map keyOf) (.tup []) fun T => some (T, H)) with e | ⟨e, hwant⟩ | ⟨e, hwant⟩ <;> rw [e] at h
  · cases h
  · have hran := cop_sound (a := a) (T := T) hw hg (ht.at _)
    cases hr : g T H with
    | fail => rw [hr] at h; cases h
    | val v G =>
      rw [hr] at hran h
      obtain ⟨T1, hp, e1⟩ := putT_sel T (o.dst.map keyOf) v
      have h : putT T (o.dst.map keyOf) v (fun T => some (T, G)) = some (T', H') := h
      rw [e1] at h
      cases h
      unfold wpOp
      rw [ho]
      simp only [hwant, if_true]
      left
      cases hran with
      | val v G nx v' u ψ hrun hnx hw' he hv =>
        have hfin : At2 P φ H w N T' H' (a.put o.dst v') u := ⟨by cases hod : o.dst <;> simp [Act.put, hdef], ψ, (ht.mono (he.le hw)).put hd hv hp, hw', he⟩
        unfold Oper.wp
        rw [hrun]
        rcases hnx with rfl | ⟨rfl, rfl⟩
        · exact hn _ _ hfin
        · exact hn _ _ hfin
    | call fn args =>
      rw [hr] at hran h
      have h : RC.rec (motive := fun _ => Option (Tr AV × Heap)) none (fun v G => putT T (o.dst.map keyOf) v fun T => some (T, G)) (E fn args H) = some (T', H') := h
      cases hc : E fn args H with
      | fail => rw [hc] at h; cases h
      | ok v G =>
        rw [hc] at h
        obtain ⟨T1, hp, e1⟩ := putT_sel T (o.dst.map keyOf) v
        have h : putT T (o.dst.map keyOf) v (fun T => some (T, G)) = some (T', H') := h
        rw [e1] at h
        cases h
        unfold wpOp
        rw [ho]
        simp only [hwant, if_true]
        left
        cases hran with
        | call fn args args' hrun ha =>
          unfold Oper.wp
          rw [hrun]
          refine (hE _ _ _ _ _ hc φ w args' ha hw).mono fun e u ⟨ψ, v', he1, hv, hw', he⟩ => ?_
          subst he1
          exact hn _ _ ⟨by cases hod : o.dst <;> simp [Act.put, hdef], ψ, (ht.mono (he.le hw)).put hd hv hp, hw', he⟩
  · obtain ⟨T1, hp, e1⟩ := putT_sel T (o.dst.map keyOf) (.tup [])
    rw [e1] at h
    cases h
    unfold wpOp
    rw [ho]
    simp only [hwant]
    exact hn _ _ ⟨by cases hod : o.dst <;> simp [Act.put, hdef], φ, ht.put hd (.tup _ #[] .nil) hp, hw, Ext.refl _ _ _⟩

noncomputable def planL (P : Program) (ops : Array Oper) : List Oper → Option (List Stp)
  | [] => some []
  | o :: l => (stpOf P ops o).bind fun s => (planL P ops l).map fun r => s :: r

theorem steps_sound {E : FuncId → List AV → Heap → RC} (hE : Good P E) {eqv : AV → AV → Bool} {ops : Array Oper} {Q : Exit → Act → World → Prop} {N : Nat} {T' : Tr AV} {H' : Heap} :
    ∀ (l : List Oper) (k : Nat) (sts : List Stp), (∀ j, j < l.length → ops[k + j]? = l[j]?) → planL P ops l = some sts → (∀ o ∈ l, ∀ d, o.dst = some d → d < N) →
      ∀ (φ : Phi) (T : Tr AV) (H : Heap) (a : Act) (w : World), WRel P φ H w → TR P φ N T a.tmps → a.defers = [] →
      stepsR eqv E sts T H = some (T', H') → (∀ a' u, At2 P φ H w N T' H' a' u → Q .normal a' u) → wpOps P ops Q ((List.range l.length).map (k + ·)) a w
  | [], k, sts, _, hp, _, φ, T, H, a, w, hw, ht, hdef, h, hn => by
    simp only [planL, Option.some.injEq] at hp
    subst hp
    cases h
    exact hn a w ⟨hdef, φ, ht, hw, Ext.refl _ _ _⟩
  | o :: l, k, sts, hl, hp, hd, φ, T, H, a, w, hw, ht, hdef, h, hn => by
    simp only [planL] at hp
    obtain ⟨st, hst, hp⟩ := bind_some hp
    obtain ⟨r, hr, rfl⟩ := map_some hp
    have ho : ops[k]? = some o := by have := hl 0 (by simp); simpa using this
    have hrest : ∀ j, j < l.length → ops[k + 1 + j]? = l[j]? := fun j hj => by
      have := hl (j + 1) (by simp; omega)
      rw [show k + (j + 1) = k + 1 + j by omega] at this
      simpa using this
    have hlist : (List.range (o :: l).length).map (k + ·) = k :: (List.range l.length).map (k + 1 + ·) := by
      rw [List.length_cons, List.range_succ_eq_map, List.map_cons, List.map_map]
      congr 1
      apply List.map_congr_left
      intro j _
      simp only [Function.comp]
      omega
    rw [stepsR_cons] at h
    cases hs : stepR eqv E st T H with
    | none => rw [hs] at h; cases h
    | some p =>
      obtain ⟨T1, H1⟩ := p
      rw [hs] at h
      rw [hlist, wpOps_cons]
      refine op_sound hE ho hst (hd o (by simp)) hw ht hdef hs fun a1 w1 h1 => ?_
      obtain ⟨hd1, ψ, ht1, hw1, he1⟩ := h1
      exact steps_sound hE l (k + 1) r hrest hr (fun o ho => hd o (by simp [ho])) ψ T1 H1 a1 w1 hw1 ht1 hd1 h fun a' u h2 => hn a' u (At2.trans he1 h2)

end Go.Ev
