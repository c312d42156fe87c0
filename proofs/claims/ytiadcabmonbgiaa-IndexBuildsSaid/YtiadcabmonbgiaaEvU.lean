/- Statements and calls: the evaluator whole, and that the model does what it reckons. -/
import Derived.Test.YtiadcabmonbgiaaEvT
namespace Go.Ev
variable {P : Program} {φ : Phi} {H : Heap} {w u : World} {T : Tr AV} {a : Act}

noncomputable def planR (P : Program) (ops : Array Oper) (draw : Bool) : Option (List Stp) := bif' draw (bif' (P.follows .mixedOrders) (planD P ops) none) (planL P ops ops.toList)

/-! ### Statements -/
noncomputable def onNorm (r : Res) (k : Tr AV → Heap → Res) : Res := Res.rec (motive := fun _ => Res) .fail (fun e T H => Ex.rec (motive := fun _ => Res) (k T H) (fun n => .ok (.exit n) T H) (.ok .ret T H) e) r
noncomputable def onBlock (r : Res) (id : Nat) : Res := Res.rec (motive := fun _ => Res) .fail (fun e T H => Ex.rec (motive := fun _ => Res) (.ok .norm T H) (fun n => bif' (Nat.beq n id) (.ok .norm T H) (.ok (.exit n) T H)) (.ok .ret T H) e) r
noncomputable def onCond (x : Option X) (T : Tr AV) (p q : Res) : Res := Option.rec (motive := fun _ => Res) .fail (fun x => withX T x .fail fun v => asBoolC v .fail fun b => bif' b p q) x
noncomputable def onReg (E : FuncId → List AV → Heap → RC) (pl : Option (List Stp)) (T : Tr AV) (H : Heap) : Res := Option.rec (motive := fun _ => Res) .fail (fun l => stepsC eqAV E l T H .fail fun T H => .ok .norm T H) pl

noncomputable def evStep (P : Program) (E : FuncId → List AV → Heap → RC) (ih : Code → Tr AV → Heap → Res) (c : Code) (T : Tr AV) (H : Heap) : Res :=
  Code.rec (motive := fun _ => Res) (.ok .norm T H) (fun _ ops draw => onReg E (planR P ops draw) T H) (fun x y _ _ => onNorm (ih x T H) (ih y)) (fun c x y _ _ => onCond (cX c) T (ih x T H) (ih y T H))
    (fun id x _ => onBlock (ih x T H) id) (fun x _ => onNorm (ih x T H) (ih (.loop x))) (fun _ _ _ _ _ _ => .fail) (fun id => .ok (.exit id) T H) (fun _ _ => .fail) (fun _ => .fail) (fun _ => .fail) (.ok .ret T H) (fun _ => .fail) c

/-! ### Calls -/
def codeOk (N : Nat) : Code → Bool
  | .region _ ops _ => ops.toList.all fun o => match o.dst with | some d => Nat.ble (d + 1) N | none => true
  | .seq x y => codeOk N x && codeOk N y
  | .cond _ x y => codeOk N x && codeOk N y
  | .block _ x => codeOk N x
  | .loop x => codeOk N x
  | .rangeFunc .. => false
  | .scope _ => false
  | .label _ => false
  | .goto _ => false
  | _ => true
/-- where a result lies: in a slot; behind the pointer in a slot -/
inductive RK where
  | tmp (k : K)
  | cell (k : K) (agg : Bool) (n : Nat)
noncomputable def resKs (P : Program) : List ResultVar → Option (List RK)
  | [] => some []
  | .tmp t :: l => (resKs P l).map fun r => .tmp (keyOf t) :: r
  | .cell a t :: l => (aggT P t).bind fun b => (szT P t).bind fun n => (resKs P l).map fun r => .cell (keyOf a) b n :: r

noncomputable def argsC {β : Type} (l : List AV) : K → Tr AV → (Tr AV → β) → β :=
  List.rec (motive := fun _ => K → Tr AV → (Tr AV → β) → β) (fun _ T c => c T) (fun v _ ih k T c => T.setC k (some v) fun T => k.succC fun k => ih k T c) l
noncomputable def getC {β : Type} (T : Tr AV) (H : Heap) (r : RK) (f : β) (c : AV → β) : β :=
  RK.rec (motive := fun _ => β) (fun k => Option.rec (motive := fun _ => β) f (fun v => c v) (T.get k)) (fun k b n => Option.rec (motive := fun _ => β) f (fun v => asPtrC v f fun p off => ldV b n p off H f c) (T.get k)) r
noncomputable def getsC {β : Type} (T : Tr AV) (H : Heap) (l : List RK) (f : β) : (List AV → β) → β :=
  List.rec (motive := fun _ => (List AV → β) → β) (fun c => c []) (fun k _ ih c => getC T H k f fun v => ih fun r => c (v :: r)) l
noncomputable def resV (T : Tr AV) (H : Heap) (l : List RK) : RC := getsC T H l .fail fun vs => List.rec (motive := fun _ => RC) (.ok (.tup []) H) (fun v r _ => List.rec (motive := fun _ => RC) (.ok v H) (fun _ _ _ => .ok (.tup vs) H) r) vs
noncomputable def finC (l : Option (List RK)) (r : Res) : RC := Option.rec (motive := fun _ => RC) .fail (fun l => Res.rec (motive := fun _ => RC) .fail (fun e T H => Ex.rec (motive := fun _ => RC) (resV T H l) (fun _ => .fail) (resV T H l) e) r) l
noncomputable def callFn (P : Program) (ih : Code → Tr AV → Heap → Res) (fn : Func) (args : List AV) (H : Heap) : RC :=
  Option.rec (motive := fun _ => RC) .fail (fun c => bif' (codeOk fn.ntmps c) (argsC args .z .lf fun T => finC (resKs P fn.results.toList) (ih c T H)) .fail) fn.body
/-- what is known of some functions beforehand -/
abbrev Orc := FuncId → List AV → Heap → Option RC
noncomputable def callStep (P : Program) (X : Orc) (ih : Code → Tr AV → Heap → Res) (f : FuncId) (args : List AV) (H : Heap) : RC :=
  Option.rec (motive := fun _ => RC) (Option.rec (motive := fun _ => RC) .fail (fun fn => callFn P ih fn args H) (P.funcs[f]?)) (fun r => r) (X f args H)

noncomputable def ev (P : Program) (X : Orc) (n : Nat) : Code → Tr AV → Heap → Res :=
  Nat.rec (motive := fun _ => Code → Tr AV → Heap → Res) (fun _ _ _ => .fail) (fun _ ih c T H => evStep P (callStep P X ih) ih c T H) n
noncomputable def evFn (P : Program) (X : Orc) (n : Nat) (f : FuncId) (args : List AV) (H : Heap) : RC := callStep P X (ev P X n) f args H

/-! ### What the model does -/
def exOf : Ex → Exit
  | .norm => .normal
  | .exit n => .exit n
  | .ret => .ret

/-- what a statement leaves -/
def Post (P : Program) (φ : Phi) (H : Heap) (w : World) (N : Nat) (e : Ex) (T' : Tr AV) (H' : Heap) : Exit → Act → World → Prop := fun x a u => x = exOf e ∧ At2 P φ H w N T' H' a u

def CodeGood (P : Program) (X : Orc) (N : Nat) (n : Nat) (c : Code) : Prop :=
  ∀ T H e T' H', ev P X n c T H = .ok e T' H' → ∀ (φ : Phi) (a : Act) (w : World), WRel P φ H w → TR P φ N T a.tmps → a.defers = [] → c.wp P (Post P φ H w N e T' H') a w

theorem onNorm_ok {r : Res} {k : Tr AV → Heap → Res} {e : Ex} {T' : Tr AV} {H' : Heap} (h : onNorm r k = .ok e T' H') :
    (∃ T1 H1, r = .ok .norm T1 H1 ∧ k T1 H1 = .ok e T' H') ∨ (r = .ok e T' H' ∧ e ≠ .norm) := by
  cases r with
  | fail => cases h
  | ok e1 T1 H1 =>
    cases e1 with
    | norm => exact .inl ⟨T1, H1, rfl, h⟩
    | exit n => cases h; exact .inr ⟨rfl, by simp⟩
    | ret => cases h; exact .inr ⟨rfl, by simp⟩

/-- A loop, by the number of rounds that are left. -/
theorem wp_loop_n {Q : Exit → Act → World → Prop} {c : Code} (J : Nat → Act → World → Prop) (round : ∀ m a w, J m a w → c.wp P (Exit.then (fun a' w' => ∃ m', m' < m ∧ J m' a' w') Q) a w) :
    ∀ (n : Nat) (a : Act) (w : World), J n a w → (Code.loop c).wp P Q a w := by
  intro n a w h0 b k cs
  have key : ∀ n a w, J n a w → ∃ e a' w', Q e a' w' ∧ Arrives P (lone (b.at a (.code c :: .inLoop c :: k)) cs w) b k cs e a' w' := by
    intro n
    induction n using Nat.strongRecOn with
    | _ n ih =>
      intro a w hJ
      obtain ⟨e, a₁, w₁, hq, harr⟩ := round n a w hJ b (.inLoop c :: k) cs
      cases e with
      | normal =>
        obtain ⟨m, hm, hJ₁⟩ := hq
        obtain ⟨e₂, a₂, w₂, hq₂, harr₂⟩ := ih m hm a₁ w₁ hJ₁
        exact ⟨e₂, a₂, w₂, hq₂, .of_steps (Steps.trans harr (.one step_inLoop)) harr₂⟩
      | exit id => exact ⟨_, a₁, w₁, hq, .pass (x := .inLoop c) rfl (fun _ _ => .inl (by simp)) harr⟩
      | goto l => exact ⟨_, a₁, w₁, hq, .pass (x := .inLoop c) rfl (fun _ _ => .inl (by simp)) harr⟩
      | ret => exact ⟨_, a₁, w₁, hq, .pass (x := .inLoop c) rfl (fun _ _ => .inl (by simp)) harr⟩
      | panic ch => exact ⟨_, a₁, w₁, hq, .pass (x := .inLoop c) rfl (fun _ _ => .inl (by simp)) harr⟩
      | outgrown => exact ⟨_, a₁, w₁, hq, .pass (x := .inLoop c) rfl (fun _ _ => .inl (by simp)) harr⟩
  obtain ⟨e, a', w', hq, harr⟩ := key _ a w h0
  exact ⟨e, a', w', hq, .of_steps (.one step_loop) harr⟩

theorem Post.trans {ψ : Phi} {G : Heap} {N : Nat} {e : Ex} {T' : Tr AV} {H' : Heap} (he : Ext φ H w ψ G u) {x : Exit} {a : Act} {v : World} (h : Post P ψ G u N e T' H' x a v) : Post P φ H w N e T' H' x a v :=
  ⟨h.1, At2.trans he h.2⟩

theorem region_sound {E : FuncId → List AV → Heap → RC} (hE : Good P E) {N id : Nat} {ops : Array Oper} {draw : Bool} (hok : codeOk N (.region id ops draw) = true) {e : Ex} {T' : Tr AV} {H' : Heap} (h : onReg E (planR P ops draw) T H = .ok e T' H')
    (hw : WRel P φ H w) (ht : TR P φ N T a.tmps) (hdef : a.defers = []) : (Code.region id ops draw).wp P (Post P φ H w N e T' H') a w := by
  have hd : ∀ o ∈ ops.toList, ∀ d, o.dst = some d → d < N := by
    intro o ho d hd
    simp only [codeOk, List.all_eq_true] at hok
    have := hok o ho
    rw [hd] at this
    exact Nat.le_of_ble_eq_true this
  cases draw with
  | true =>
    have hp : planR P ops true = bif' (P.follows .mixedOrders) (planD P ops) none := rfl
    rw [hp] at h
    cases hm : P.follows .mixedOrders with
    | false => rw [hm] at h; cases h
    | true =>
    rw [hm, bif_true] at h
    cases hpl : planD P ops with
    | none => rw [hpl] at h; cases h
    | some sts =>
      rw [hpl] at h
      have h : stepsC eqAV E sts T H Res.fail (fun T H => .ok .norm T H) = .ok e T' H' := h
      rw [stepsC_eq] at h
      cases hs : stepsR eqAV E sts T H with
      | none => rw [hs] at h; cases h
      | some p =>
        obtain ⟨T1, H1⟩ := p
        rw [hs] at h
        cases h
        obtain ⟨hst, ord, hplan, hcov⟩ := planD_sound (N := N) (fun i o t ho hd' => hd o (by simpa using Array.mem_of_getElem? ho) t hd') hpl
        have hnl : ∀ i, ¬ lst (Array.replicate ops.size false) i := by
          intro i hi
          unfold lst at hi
          simp only [Array.getD_eq_getD_getElem?, Array.getElem?_replicate] at hi
          split at hi <;> simp at hi
        refine wp_region_any hm ?_
        refine any_sound (fun a b h => eqAV_eq h) hE hst hplan hcov (φ0 := φ) (H0 := H) (w0 := { w with drawn := w.drawn + 1 }) (T1 := T') (H1 := H') (fun a' u h => ⟨rfl, h.1, let ⟨ψ, h1, h2, h3⟩ := h.2; ⟨ψ, h1, h2, h3.drew0 _⟩⟩) ops.size (List.range ops.size) (by simp) _ [] ord sts T H φ a _ (fun _ => none)
          (fun j hj _ => by simpa using hj) hplan (fun j hj => .inr (hcov j hj)) ?_ hs
        exact ⟨by simp, fun i o _ h => absurd h (hnl i), fun i h => absurd h (hnl i), by simp, by simp, by simp, by simp, by simp, ht.size, fun t v hv => .inr (ht.get t v hv), hw.drew _, Ext.refl _ _ _, hdef⟩
  | false =>
    have hp : planR P ops false = planL P ops ops.toList := rfl
    rw [hp] at h
    cases hpl : planL P ops ops.toList with
    | none => rw [hpl] at h; cases h
    | some sts =>
      rw [hpl] at h
      have h : stepsC eqAV E sts T H Res.fail (fun T H => .ok .norm T H) = .ok e T' H' := h
      rw [stepsC_eq] at h
      cases hs : stepsR eqAV E sts T H with
      | none => rw [hs] at h; cases h
      | some p =>
        obtain ⟨T1, H1⟩ := p
        rw [hs] at h
        cases h
        refine wp_region ?_
        have := steps_sound (Q := Post P φ H w N .norm T' H') hE ops.toList 0 sts (fun j hj => by simp) hpl hd φ T H a w hw ht hdef hs (fun a' u h => ⟨rfl, h⟩)
        simpa using this

theorem code_sound {X : Orc} (n : Nat) (hE : ∀ m, m < n → Good P (callStep P X (ev P X m))) (hC : ∀ m, m < n → ∀ N c, codeOk N c = true → CodeGood P X N m c) : ∀ N c, codeOk N c = true → CodeGood P X N n c := by
  intro N c hok T H e T' H' h φ a w hw ht hdef
  cases n with
  | zero => cases h
  | succ n =>
    have h : evStep P (callStep P X (ev P X n)) (ev P X n) c T H = .ok e T' H' := h
    have hEn := hE n (by omega)
    cases c with
    | skip => cases h; exact wp_skip ⟨rfl, hdef, φ, ht, hw, Ext.refl _ _ _⟩
    | region id ops draw => exact region_sound hEn hok h hw ht hdef
    | seq x y =>
      simp only [codeOk, Bool.and_eq_true] at hok
      have h : onNorm (ev P X n x T H) (ev P X n y) = .ok e T' H' := h
      refine wp_seq ?_
      rcases onNorm_ok h with ⟨T1, H1, h1, h2⟩ | ⟨h1, hne⟩
      · refine wp_mono (hC n (by omega) N x hok.1 T H _ T1 H1 h1 φ a w hw ht hdef) fun e1 a1 w1 hp => ?_
        obtain ⟨rfl, hd1, ψ, ht1, hw1, he1⟩ := hp
        exact wp_mono (hC n (by omega) N y hok.2 T1 H1 e T' H' h2 ψ a1 w1 hw1 ht1 hd1) fun e2 a2 w2 hp2 => Post.trans he1 hp2
      · refine wp_mono (hC n (by omega) N x hok.1 T H e T' H' h1 φ a w hw ht hdef) fun e1 a1 w1 hp => ?_
        obtain ⟨rfl, hp⟩ := hp
        cases e with
        | norm => exact absurd rfl hne
        | exit k => exact ⟨rfl, hp⟩
        | ret => exact ⟨rfl, hp⟩
    | cond x p q =>
      simp only [codeOk, Bool.and_eq_true] at hok
      have h : onCond (cX x) T (ev P X n p T H) (ev P X n q T H) = .ok e T' H' := h
      cases hx : cX x with
      | none => rw [hx] at h; cases h
      | some x' =>
        rw [hx] at h
        have h : withX T x' Res.fail (fun v => asBoolC v .fail fun b => bif' b (ev P X n p T H) (ev P X n q T H)) = .ok e T' H' := h
        rcases withX_eq T x' Res.fail (fun v => asBoolC v .fail fun b => bif' b (ev P X n p T H) (ev P X n q T H)) with ⟨_, e1⟩ | ⟨v, hv, e1⟩ <;> rw [e1] at h
        · cases h
        have hv' := evX_sound (a := a) (ht.at _) hx hv
        generalize hy : a.eval x = y at *
        cases hv' <;> try cases h
        rename_i b
        have h : bif' b (ev P X n p T H) (ev P X n q T H) = .ok e T' H' := h
        refine wp_cond hy ?_
        cases b
        · exact hC n (by omega) N q hok.2 T H e T' H' h φ a w hw ht hdef
        · exact hC n (by omega) N p hok.1 T H e T' H' h φ a w hw ht hdef
    | block id x =>
      have h : onBlock (ev P X n x T H) id = .ok e T' H' := h
      refine wp_block ?_
      cases h1 : ev P X n x T H with
      | fail => rw [h1] at h; cases h
      | ok e1 T1 H1 =>
        rw [h1] at h
        refine wp_mono (hC n (by omega) N x hok T H e1 T1 H1 h1 φ a w hw ht hdef) fun x1 a1 w1 hp => ?_
        obtain ⟨rfl, hp⟩ := hp
        cases e1 with
        | norm => cases h; exact ⟨rfl, hp⟩
        | ret => cases h; exact ⟨rfl, hp⟩
        | exit k =>
          have h : bif' (Nat.beq k id) (Res.ok .norm T1 H1) (.ok (.exit k) T1 H1) = .ok e T' H' := h
          show Exit.inBlock id _ (.exit k) a1 w1
          simp only [Exit.inBlock]
          by_cases hk : Nat.beq k id = true
          · rw [hk] at h
            cases h
            rw [if_pos (Nat.eq_of_beq_eq_true hk)]
            exact ⟨rfl, hp⟩
          · rw [eq_false_of_ne_true hk] at h
            cases h
            rw [if_neg (fun e => hk (by rw [e]; exact Nat.beq_refl id))]
            exact ⟨rfl, hp⟩
    | loop x =>
      refine wp_loop_n (fun m a' w' => m ≤ n + 1 ∧ ∃ T1 H1 ψ, ev P X m (.loop x) T1 H1 = .ok e T' H' ∧ TR P ψ N T1 a'.tmps ∧ WRel P ψ H1 w' ∧ Ext φ H w ψ H1 w' ∧ a'.defers = []) ?_ (n + 1) a w ⟨Nat.le_refl _, T, H, φ, h, ht, hw, Ext.refl _ _ _, hdef⟩
      rintro m a' w' ⟨hm, T1, H1, ψ, h1, ht1, hw1, he1, hd1⟩
      cases m with
      | zero => cases h1
      | succ m =>
        have h1 : onNorm (ev P X m x T1 H1) (ev P X m (.loop x)) = .ok e T' H' := h1
        rcases onNorm_ok h1 with ⟨T2, H2, h2, h3⟩ | ⟨h2, hne⟩
        · refine wp_mono (hC m (by omega) N x hok T1 H1 _ T2 H2 h2 ψ a' w' hw1 ht1 hd1) fun e1 a1 w1 hp => ?_
          obtain ⟨rfl, hd2, χ, ht2, hw2, he2⟩ := hp
          exact ⟨m, by omega, by omega, T2, H2, χ, h3, ht2, hw2, he1.trans he2, hd2⟩
        · refine wp_mono (hC m (by omega) N x hok T1 H1 e T' H' h2 ψ a' w' hw1 ht1 hd1) fun e1 a1 w1 hp => ?_
          obtain ⟨rfl, hp⟩ := hp
          cases e with
          | norm => exact absurd rfl hne
          | exit k => exact ⟨rfl, At2.trans he1 hp⟩
          | ret => exact ⟨rfl, At2.trans he1 hp⟩
    | rangeFunc f ps as b => cases h
    | exit id => cases h; exact wp_exit ⟨rfl, hdef, φ, ht, hw, Ext.refl _ _ _⟩
    | scope x => cases h
    | label l => cases h
    | goto l => cases h
    | ret => cases h; exact wp_ret ⟨rfl, hdef, φ, ht, hw, Ext.refl _ _ _⟩
    | refuse why => cases h

/-! ### A call -/
theorem argsC_eq {β : Type} : ∀ (l : List AV) (i : Nat) (T : Tr AV) (c : Tr AV → β), ∃ T', argsC l (keyOf i) T c = c T' ∧ ∀ j, T'.get (keyOf j) = if i ≤ j ∧ j < i + l.length then l[j - i]? else T.get (keyOf j)
  | [], i, T, c => ⟨T, rfl, fun j => by rw [if_neg (by simp)]⟩
  | v :: l, i, T, c => by
    have h1 : argsC (v :: l) (keyOf i) T c = T.setC (keyOf i) (some v) fun T => (keyOf i).succC fun k => argsC l k T c := rfl
    obtain ⟨T', h2, h3⟩ := argsC_eq l (i + 1) (T.set (keyOf i) (some v)) c
    refine ⟨T', ?_, fun j => ?_⟩
    · rw [h1, Tr.setC_eq, K.succC_eq]; exact h2
    · rw [h3 j, Tr.get_set]
      by_cases hj : j = i
      · subst hj
        rw [if_neg (by omega), if_pos rfl, if_pos ⟨Nat.le_refl _, by simp⟩, Nat.sub_self]
        rfl
      · by_cases hk : i + 1 ≤ j ∧ j < i + 1 + l.length
        · rw [if_pos hk, if_pos (by simp; omega)]
          have : j - i = (j - (i + 1)) + 1 := by omega
          rw [this]; rfl
        · rw [if_neg hk, if_neg (fun e => hj (keyOf_inj e.symm)), if_neg (by simp; omega)]

def resG (tmps : Array Value) : ResultVar → Sem Value
  | .tmp t => pure (tmps.getD t undef)
  | .cell a t => do loadVar t (← asAddr (tmps.getD a undef))

theorem gets_sound (hw : WRel P φ H w) {tmps : Array Value} {N : Nat} (ht : TR P φ N T tmps) {β : Type} (f : β) : ∀ (rs : List ResultVar) (ks : List RK) (c : List AV → β), resKs P rs = some ks →
    getsC T H ks f c = f ∨ ∃ vs vs', getsC T H ks f c = c vs ∧ VRels P φ vs vs' ∧ (rs.mapM (resG tmps)).run P w = .ok vs' w
  | [], ks, c, h => by cases h; exact .inr ⟨[], [], rfl, .nil, rfl⟩
  | .cell a t :: rs, ks, c, h => by
    simp only [resKs] at h
    obtain ⟨b, hb, h⟩ := bind_some h
    obtain ⟨n, hn, h⟩ := bind_some h
    obtain ⟨r, hr, rfl⟩ := map_some h
    have hrw : getsC T H (.cell (keyOf a) b n :: r) f c = Option.rec (motive := fun _ => β) f (fun v => asPtrC v f fun p off => ldV b n p off H f fun v => getsC T H r f fun r => c (v :: r)) (T.get (keyOf a)) := rfl
    rw [hrw]
    cases hv : T.get (keyOf a) with
    | none => exact .inl rfl
    | some v =>
      obtain ⟨v', h1, h2⟩ := ht.get a v hv
      cases h2 <;> try exact .inl rfl
      rename_i p off at_ hk
      have hrw2 : (Option.rec (motive := fun _ => β) f (fun v => asPtrC v f fun p off => ldV b n p off H f fun v => getsC T H r f fun r => c (v :: r)) (some (AV.ptr p off))) = ldV b n p off H f fun v => getsC T H r f fun r => c (v :: r) := rfl
      rw [hrw2]
      rcases ldV_sound hw hk hb hn off f (fun v => getsC T H r f fun r => c (v :: r)) with e | ⟨x, x', e, hx, hvr⟩ <;> rw [e]
      · exact .inl rfl
      rcases gets_sound hw ht f rs r (fun r => c (x :: r)) hr with e | ⟨vs, vs', e, h3, h4⟩
      · exact .inl e
      · refine .inr ⟨x :: vs, x' :: vs', e, .cons _ _ _ _ hvr h3, ?_⟩
        have hg : tmps.getD a undef = .pointer (some ⟨at_.b, at_.o + off, none⟩) := by simp [Array.getD_eq_getD_getElem?, h1]
        simp only [List.mapM_cons, resG, hg, asAddr, Sem.run_bind, Sem.run_pure, Result.andThen_ok, hx, h4]
  | .tmp t :: rs, ks, c, h => by
    simp only [resKs] at h
    obtain ⟨r, hr, rfl⟩ := map_some h
    have hrw : getsC T H (.tmp (keyOf t) :: r) f c = Option.rec (motive := fun _ => β) f (fun v => getsC T H r f fun r => c (v :: r)) (T.get (keyOf t)) := rfl
    rw [hrw]
    cases hv : T.get (keyOf t) with
    | none => exact .inl rfl
    | some v =>
      obtain ⟨v', h1, h2⟩ := ht.get t v hv
      rcases gets_sound hw ht f rs r (fun r => c (v :: r)) hr with e | ⟨vs, vs', e, h3, h4⟩
      · exact .inl e
      · refine .inr ⟨v :: vs, v' :: vs', e, .cons _ _ _ _ h2 h3, ?_⟩
        have hg : tmps.getD t undef = v' := by simp [Array.getD_eq_getD_getElem?, h1]
        simp only [List.mapM_cons, resG, hg, Sem.run_bind, Sem.run_pure, Result.andThen_ok, h4]

/-- What a call of a function makes of its arguments and of memory. -/
def FnOk (P : Program) (f : FuncId) (args : List AV) (H : Heap) (Q : AV → Heap → Prop) : Prop :=
  ∀ (φ : Phi) (w : World) (args' : Array Value), VRels P φ args args'.toList → WRel P φ H w →
    Calls P f args' w fun e u => ∃ v G, Q v G ∧ ∃ ψ v', e = .returned v' ∧ VRel P ψ v v' ∧ WRel P ψ G u ∧ Ext φ H w ψ G u
def GoodX (P : Program) (X : Orc) : Prop := ∀ f args H r, X f args H = some r → ∀ v G, r = .ok v G → FnOk P f args H fun v' G' => v' = v ∧ G' = G
theorem FnOk.one {f : FuncId} {args : List AV} {v : AV} {G : Heap} (h : FnOk P f args H fun v' G' => v' = v ∧ G' = G) (φ : Phi) (w : World) (args' : Array Value) (ha : VRels P φ args args'.toList) (hw : WRel P φ H w) :
    Calls P f args' w fun e u => ∃ ψ v', e = .returned v' ∧ VRel P ψ v v' ∧ WRel P ψ G u ∧ Ext φ H w ψ G u :=
  (h φ w args' ha hw).mono fun e u ⟨_, _, ⟨e1, e2⟩, hr⟩ => by subst e1 e2; exact hr

theorem call_sound {X : Orc} (hX : GoodX P X) {n : Nat} (hC : ∀ N c, codeOk N c = true → CodeGood P X N n c) : Good P (callStep P X (ev P X n)) := by
  intro f args H v G h φ w args' ha hw
  unfold callStep at h
  cases hXf : X f args H with
  | some r => rw [hXf] at h; exact (hX f args H r hXf v G h).one φ w args' ha hw
  | none =>
  rw [hXf] at h
  have h : (Option.rec (motive := fun _ => RC) .fail (fun fn => callFn P (ev P X n) fn args H) (P.funcs[f]?) : RC) = .ok v G := h
  cases hf : P.funcs[f]? with
  | none => rw [hf] at h; cases h
  | some fn =>
    rw [hf] at h
    have h : callFn P (ev P X n) fn args H = .ok v G := h
    unfold callFn at h
    cases hb : fn.body with
    | none => rw [hb] at h; cases h
    | some c =>
      rw [hb] at h
      have h : bif' (codeOk fn.ntmps c) (argsC args .z .lf fun T => finC (resKs P fn.results.toList) (ev P X n c T H)) .fail = .ok v G := h
      by_cases hok : codeOk fn.ntmps c = true
      case neg => rw [eq_false_of_ne_true hok] at h; cases h
      rw [hok, bif_true] at h
      obtain ⟨T, e1, hT⟩ := argsC_eq args 0 .lf (fun T => finC (resKs P fn.results.toList) (ev P X n c T H))
      have e1 : (argsC args .z .lf fun T => finC (resKs P fn.results.toList) (ev P X n c T H)) = finC (resKs P fn.results.toList) (ev P X n c T H) := e1
      rw [e1] at h
      cases hk : resKs P fn.results.toList with
      | none => rw [hk] at h; cases h
      | some ks =>
        rw [hk] at h
        have hlen := ha.length
        have ht : TR P φ fn.ntmps T (args' ++ Array.replicate (fn.ntmps - args'.size) undef) := by
          refine ⟨by simp; omega, fun t x hx => ?_⟩
          rw [hT] at hx
          split at hx
          · obtain ⟨x', h1, h2⟩ := ha.nth (t - 0) hx
            refine ⟨x', ?_, h2⟩
            have hlt : t < args'.size := by
              have := (List.getElem?_eq_some_iff.1 h1).1
              simpa using this
            rw [Array.getElem?_append_left hlt]
            simpa using h1
          · rw [Tr.get_lf] at hx; cases hx
        cases hev : ev P X n c T H with
        | fail => rw [hev] at h; cases h
        | ok e T' H' =>
          rw [hev] at h
          refine calls_of_wp hf hb ?_
          refine wp_mono (hC _ c hok T H e T' H' hev φ { tmps := args' ++ Array.replicate (fn.ntmps - args'.size) undef, defers := [] } w hw ht rfl) fun x a1 w1 hp => ?_
          obtain ⟨rfl, hd1, ψ, ht1, hw1, he1⟩ := hp
          have fin : resV T' H' ks = .ok v G → a1.defers = [] ∧ ∃ r, (results fn a1.tmps).run P w1 = .ok r w1 ∧ ∃ ψ v', Ending.returned r = .returned v' ∧ VRel P ψ v v' ∧ WRel P ψ G w1 ∧ Ext φ H w ψ G w1 := by
            intro hres
            refine ⟨hd1, ?_⟩
            unfold resV at hres
            rcases gets_sound hw1 ht1 RC.fail fn.results.toList ks (fun vs => List.rec (motive := fun _ => RC) (.ok (.tup []) H') (fun v r _ => List.rec (motive := fun _ => RC) (.ok v H') (fun _ _ _ => .ok (.tup vs) H') r) vs) hk with e2 | ⟨vs, vs', e2, h3, h4⟩ <;> rw [e2] at hres
            · cases hres
            have hrun : (results fn a1.tmps).run P w1 = .ok (if h : vs'.toArray.size = 1 then vs'.toArray[0] else .tuple vs'.toArray) w1 := by
              show (do let vs ← fn.results.mapM (resG a1.tmps); pure (if h : vs.size = 1 then vs[0] else Value.tuple vs) : Sem Value).run P w1 = _
              rw [Array.mapM_eq_mapM_toList]
              simp only [Sem.run_bind, Sem.run_map, h4, Result.andThen_ok, Sem.run_pure]
            refine ⟨_, hrun, ψ, _, rfl, ?_, ?_⟩
            · cases h3 with
              | nil => cases hres; exact .tup _ #[] .nil
              | cons x l x' l' hx hl =>
                cases hl with
                | nil => cases hres; exact hx
                | cons y l y' l' hy hl =>
                  cases hres
                  rw [dif_neg (by simp)]
                  exact .tup _ _ (.cons _ _ _ _ hx (.cons _ _ _ _ hy hl))
            · have : H' = G := by
                cases vs with
                | nil => cases hres; rfl
                | cons x l => cases l with
                  | nil => cases hres; rfl
                  | cons y l => cases hres; rfl
              subst this
              exact ⟨hw1, he1⟩
          cases e with
          | norm => exact fin h
          | ret => exact fin h
          | exit k => cases h

theorem ev_good (P : Program) {X : Orc} (hX : GoodX P X) : ∀ n, (∀ N c, codeOk N c = true → CodeGood P X N n c) := by
  intro n
  induction n using Nat.strongRecOn with
  | _ n ih => exact code_sound n (fun m hm => call_sound hX (ih m hm)) ih

/-- THE ONE THEOREM: what the evaluator reckons of a call, the model does, in every world and on every tape. -/
theorem evFn_sound (P : Program) {X : Orc} (hX : GoodX P X) (n : Nat) : Good P (evFn P X n) := call_sound hX (ev_good P hX n)
theorem FnOk.of_ev {X : Orc} (hX : GoodX P X) {n : Nat} {f : FuncId} {args : List AV} {v : AV} {G : Heap} (h : evFn P X n f args H = .ok v G) : FnOk P f args H fun v' G' => v' = v ∧ G' = G :=
  fun φ w args' ha hw => (evFn_sound P hX n f args H v G h φ w args' ha hw).mono fun e u hr => ⟨v, G, ⟨rfl, rfl⟩, hr⟩

end Go.Ev
