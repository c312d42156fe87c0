/- part. -/
import Derived.Test.YtglpihajimhekaaGreatDoorZ10
namespace Go.Ev
variable {P : Program} {φ : Phi} {H : Heap} {w u : World} {T : Tr AV} {a : Act}
noncomputable def planR (P : Program) (ops : Array Oper) (draw : Bool) : Option (List Stp) := bif' draw (bif' (P.follows .mixedOrders) (planD P ops) none) (planL P ops ops.toList)
noncomputable def onNorm (r : Res) (k : Tr AV → Heap → Res) : Res := Res.rec (motive := fun _ => Res) .fail (fun e T H => Ex.rec (motive := fun _ => Res) (k T H) (fun n => .ok (.exit n) T H) (.ok .ret T H) e) r
noncomputable def onBlock (r : Res) (id : Nat) : Res := Res.rec (motive := fun _ => Res) .fail (fun e T H => Ex.rec (motive := fun _ => Res) (.ok .norm T H) (fun n => bif' (Nat.beq n id) (.ok .norm T H) (.ok (.exit n) T H)) (.ok .ret T H) e) r
noncomputable def onCond (x : Option X) (T : Tr AV) (p q : Res) : Res := Option.rec (motive := fun _ => Res) .fail (fun x => withX T x .fail fun v => asBoolC v .fail fun b => bif' b p q) x
noncomputable def onReg (E : FuncId → List AV → Heap → RC) (pl : Option (List Stp)) (T : Tr AV) (H : Heap) : Res := Option.rec (motive := fun _ => Res) .fail (fun l => stepsC eqAV E l T H .fail fun T H => .ok .norm T H) pl
noncomputable def evStep (P : Program) (E : FuncId → List AV → Heap → RC) (ih : Code → Tr AV → Heap → Res) (c : Code) (T : Tr AV) (H : Heap) : Res :=
 Code.rec (motive := fun _ => Res) (.ok .norm T H) (fun _ ops draw => onReg E (planR P ops draw) T H) (fun x y _ _ => onNorm (ih x T H) (ih y)) (fun c x y _ _ => onCond (cX c) T (ih x T H) (ih y T H))
  (fun id x _ => onBlock (ih x T H) id) (fun x _ => onNorm (ih x T H) (ih (.loop x))) (fun _ _ _ _ _ _ => .fail) (fun id => .ok (.exit id) T H) (fun _ _ => .fail) (fun _ => .fail) (fun _ => .fail) (.ok .ret T H) (fun _ => .fail) c
def codeOk (N : Nat) : Code → Bool
 | .region _ ops _ => ops.toList.all fun o => match o.dst with | some d => Nat.ble (d + 1) N | none => true
 | .seq x y => codeOk N x && codeOk N y
 | .cond _ x y => codeOk N x && codeOk N y
 | .block _ x => codeOk N x
 | .loop x => codeOk N x
 | .rangeFunc .. => false
 | .scope _ => false
 | .label _ => false
 | .goto _ => false
 | _ => true
inductive RK where
 | tmp (k : K)
 | cell (k : K) (agg : Bool) (n : Nat)
noncomputable def resKs (P : Program) : List ResultVar → Option (List RK)
 | [] => some []
 | .tmp t :: l => (resKs P l).map fun r => .tmp (keyOf t) :: r
 | .cell a t :: l => (aggT P t).bind fun b => (szT P t).bind fun n => (resKs P l).map fun r => .cell (keyOf a) b n :: r
noncomputable def argsC {β : Type} (l : List AV) : K → Tr AV → (Tr AV → β) → β :=
 List.rec (motive := fun _ => K → Tr AV → (Tr AV → β) → β) (fun _ T c => c T) (fun v _ ih k T c => T.setC k (some v) fun T => k.succC fun k => ih k T c) l
noncomputable def getC {β : Type} (T : Tr AV) (H : Heap) (r : RK) (f : β) (c : AV → β) : β :=
 RK.rec (motive := fun _ => β) (fun k => Option.rec (motive := fun _ => β) f (fun v => c v) (T.get k)) (fun k b n => Option.rec (motive := fun _ => β) f (fun v => asPtrC v f fun p off => ldV b n p off H f c) (T.get k)) r
noncomputable def getsC {β : Type} (T : Tr AV) (H : Heap) (l : List RK) (f : β) : (List AV → β) → β :=
 List.rec (motive := fun _ => (List AV → β) → β) (fun c => c []) (fun k _ ih c => getC T H k f fun v => ih fun r => c (v :: r)) l
noncomputable def resV (T : Tr AV) (H : Heap) (l : List RK) : RC := getsC T H l .fail fun vs => List.rec (motive := fun _ => RC) (.ok (.tup []) H) (fun v r _ => List.rec (motive := fun _ => RC) (.ok v H) (fun _ _ _ => .ok (.tup vs) H) r) vs
noncomputable def finC (l : Option (List RK)) (r : Res) : RC := Option.rec (motive := fun _ => RC) .fail (fun l => Res.rec (motive := fun _ => RC) .fail (fun e T H => Ex.rec (motive := fun _ => RC) (resV T H l) (fun _ => .fail) (resV T H l) e) r) l
noncomputable def callFn (P : Program) (ih : Code → Tr AV → Heap → Res) (fn : Func) (args : List AV) (H : Heap) : RC :=
 Option.rec (motive := fun _ => RC) .fail (fun c => bif' (codeOk fn.ntmps c) (argsC args .z .lf fun T => finC (resKs P fn.results.toList) (ih c T H)) .fail) fn.body
abbrev Orc := FuncId → List AV → Heap → Option RC
noncomputable def callStep (P : Program) (X : Orc) (ih : Code → Tr AV → Heap → Res) (f : FuncId) (args : List AV) (H : Heap) : RC :=
 Option.rec (motive := fun _ => RC) (Option.rec (motive := fun _ => RC) .fail (fun fn => callFn P ih fn args H) (P.funcs[f]?)) (fun r => r) (X f args H)
noncomputable def ev (P : Program) (X : Orc) (n : Nat) : Code → Tr AV → Heap → Res :=
 Nat.rec (motive := fun _ => Code → Tr AV → Heap → Res) (fun _ _ _ => .fail) (fun _ ih c T H => evStep P (callStep P X ih) ih c T H) n
noncomputable def evFn (P : Program) (X : Orc) (n : Nat) (f : FuncId) (args : List AV) (H : Heap) : RC := callStep P X (ev P X n) f args H
def exOf : Ex → Exit
 | .norm => .normal
 | .exit n => .exit n
 | .ret => .ret
def Post (P : Program) (φ : Phi) (H : Heap) (w : World) (N : Nat) (e : Ex) (T' : Tr AV) (H' : Heap) : Exit → Act → World → Prop := fun x a u => x = exOf e ∧ At2 P φ H w N T' H' a u
def CodeGood (P : Program) (X : Orc) (N : Nat) (n : Nat) (c : Code) : Prop :=
 ∀ T H e T' H', ev P X n c T H = .ok e T' H' → ∀ (φ : Phi) (a : Act) (w : World), WRel P φ H w → TR P φ N T a.tmps → a.defers = [] → c.wp P (Post P φ H w N e T' H') a w
theorem onNorm_ok {r : Res} {k : Tr AV → Heap → Res} {e : Ex} {T' : Tr AV} {H' : Heap} (h : onNorm r k = .ok e T' H') :
  (∃ T1 H1, r = .ok .norm T1 H1 ∧ k T1 H1 = .ok e T' H') ∨ (r = .ok e T' H' ∧ e ≠ .norm) := by
 cases r with
 | fail => cases h
 | ok e1 T1 H1 =>
  cases e1 with
  | norm => exact .inl ⟨T1, H1, rfl, h⟩
  | exit n => cases h; exact .inr ⟨rfl, by simp⟩
  | ret => cases h; exact .inr ⟨rfl, by simp⟩
theorem wp_loop_n {Q : Exit → Act → World → Prop} {c : Code} (J : Nat → Act → World → Prop) (round : ∀ m a w, J m a w → c.wp P (Exit.then (fun a' w' => ∃ m', m' < m ∧ J m' a' w') Q) a w) :
  ∀ (n : Nat) (a : Act) (w : World), J n a w → (Code.loop c).wp P Q a w := by
 intro n a w h0 b k cs
 have key : ∀ n a w, J n a w → ∃ e a' w', Q e a' w' ∧ Arrives P (lone (b.at a (.code c :: .inLoop c :: k)) cs w) b k cs e a' w' := by
  intro n
  induction n using Nat.strongRecOn with
  | _ n ih =>
   intro a w hJ
   obtain ⟨e, a₁, w₁, hq, harr⟩ := round n a w hJ b (.inLoop c :: k) cs
   cases e with
   | normal =>
    obtain ⟨m, hm, hJ₁⟩ := hq
    obtain ⟨e₂, a₂, w₂, hq₂, harr₂⟩ := ih m hm a₁ w₁ hJ₁
    exact ⟨e₂, a₂, w₂, hq₂, .of_steps (Steps.trans harr (.one step_inLoop)) harr₂⟩
   | exit id => exact ⟨_, a₁, w₁, hq, .pass (x := .inLoop c) rfl (fun _ _ => .inl (by simp)) harr⟩
   | goto l => exact ⟨_, a₁, w₁, hq, .pass (x := .inLoop c) rfl (fun _ _ => .inl (by simp)) harr⟩
   | ret => exact ⟨_, a₁, w₁, hq, .pass (x := .inLoop c) rfl (fun _ _ => .inl (by simp)) harr⟩
   | panic ch => exact ⟨_, a₁, w₁, hq, .pass (x := .inLoop c) rfl (fun _ _ => .inl (by simp)) harr⟩
   | outgrown => exact ⟨_, a₁, w₁, hq, .pass (x := .inLoop c) rfl (fun _ _ => .inl (by simp)) harr⟩
 obtain ⟨e, a', w', hq, harr⟩ := key _ a w h0
 exact ⟨e, a', w', hq, .of_steps (.one step_loop) harr⟩
theorem Post.trans {ψ : Phi} {G : Heap} {N : Nat} {e : Ex} {T' : Tr AV} {H' : Heap} (he : Ext φ H w ψ G u) {x : Exit} {a : Act} {v : World} (h : Post P ψ G u N e T' H' x a v) : Post P φ H w N e T' H' x a v :=
 ⟨h.1, At2.trans he h.2⟩
theorem region_sound {E : FuncId → List AV → Heap → RC} (hE : Good P E) {N id : Nat} {ops : Array Oper} {draw : Bool} (hok : codeOk N (.region id ops draw) = true) {e : Ex} {T' : Tr AV} {H' : Heap} (h : onReg E (planR P ops draw) T H = .ok e T' H')
  (hw : WRel P φ H w) (ht : TR P φ N T a.tmps) (hdef : a.defers = []) : (Code.region id ops draw).wp P (Post P φ H w N e T' H') a w := by
 have hd : ∀ o ∈ ops.toList, ∀ d, o.dst = some d → d < N := by
  intro o ho d hd
  simp only [codeOk, List.all_eq_true] at hok
  have := hok o ho
  rw [hd] at this
  exact Nat.le_of_ble_eq_true this
 cases draw with
 | true =>
  have hp : planR P ops true = bif' (P.follows .mixedOrders) (planD P ops) none := rfl
  rw [hp] at h
  cases hm : P.follows .mixedOrders with
  | false => rw [hm] at h; cases h
  | true =>
  rw [hm, bif_true] at h
  cases hpl : planD P ops with
  | none => rw [hpl] at h; cases h
  | some sts =>
   rw [hpl] at h
   have h : stepsC eqAV E sts T H Res.fail (fun T H => .ok .norm T H) = .ok e T' H' := h
   rw [stepsC_eq] at h
   cases hs : stepsR eqAV E sts T H with
   | none => rw [hs] at h; cases h
   | some p =>
    obtain ⟨T1, H1⟩ := p
    rw [hs] at h
    cases h
    obtain ⟨hst, ord, hplan, hcov⟩ := planD_sound (N := N) (fun i o t ho hd' => hd o (by simpa using Array.mem_of_getElem? ho) t hd') hpl
    have hnl : ∀ i, ¬ lst (Array.replicate ops.size false) i := by
     intro i hi
     unfold lst at hi
     simp only [Array.getD_eq_getD_getElem?, Array.getElem?_replicate] at hi
     split at hi <;> simp at hi
    refine wp_region_any hm ?_
    refine any_sound (fun a b h => eqAV_eq h) hE hst hplan hcov (φ0 := φ) (H0 := H) (w0 := { w with drawn := w.drawn + 1 }) (T1 := T') (H1 := H') (fun a' u h => ⟨rfl, h.1, let ⟨ψ, h1, h2, h3⟩ := h.2; ⟨ψ, h1, h2, h3.drew0 _⟩⟩) ops.size (List.range ops.size) (by simp) _ [] ord sts T H φ a _ (fun _ => none)
     (fun j hj _ => by simpa using hj) hplan (fun j hj => .inr (hcov j hj)) ?_ hs
    exact ⟨by simp, fun i o _ h => absurd h (hnl i), fun i h => absurd h (hnl i), by simp, by simp, by simp, by simp, by simp, ht.size, fun t v hv => .inr (ht.get t v hv), hw.drew _, Ext.refl _ _ _, hdef⟩
 | false =>
  have hp : planR P ops false = planL P ops ops.toList := rfl
  rw [hp] at h
  cases hpl : planL P ops ops.toList with
  | none => rw [hpl] at h; cases h
  | some sts =>
   rw [hpl] at h
   have h : stepsC eqAV E sts T H Res.fail (fun T H => .ok .norm T H) = .ok e T' H' := h
   rw [stepsC_eq] at h
   cases hs : stepsR eqAV E sts T H with
   | none => rw [hs] at h; cases h
   | some p =>
    obtain ⟨T1, H1⟩ := p
    rw [hs] at h
    cases h
    refine wp_region ?_
    have := steps_sound (Q := Post P φ H w N .norm T' H') hE ops.toList 0 sts (fun j hj => by simp) hpl hd φ T H a w hw ht hdef hs (fun a' u h => ⟨rfl, h⟩)
    simpa using this
theorem code_sound {X : Orc} (n : Nat) (hE : ∀ m, m < n → Good P (callStep P X (ev P X m))) (hC : ∀ m, m < n → ∀ N c, codeOk N c = true → CodeGood P X N m c) : ∀ N c, codeOk N c = true → CodeGood P X N n c := by
 intro N c hok T H e T' H' h φ a w hw ht hdef
 cases n with
 | zero => cases h
 | succ n =>
  have h : evStep P (callStep P X (ev P X n)) (ev P X n) c T H = .ok e T' H' := h
  have hEn := hE n (by omega)
  cases c with
  | skip => cases h; exact wp_skip ⟨rfl, hdef, φ, ht, hw, Ext.refl _ _ _⟩
  | region id ops draw => exact region_sound hEn hok h hw ht hdef
  | seq x y =>
   simp only [codeOk, Bool.and_eq_true] at hok
   have h : onNorm (ev P X n x T H) (ev P X n y) = .ok e T' H' := h
   refine wp_seq ?_
   rcases onNorm_ok h with ⟨T1, H1, h1, h2⟩ | ⟨h1, hne⟩
   ·refine wp_mono (hC n (by omega) N x hok.1 T H _ T1 H1 h1 φ a w hw ht hdef) fun e1 a1 w1 hp => ?_
    obtain ⟨rfl, hd1, ψ, ht1, hw1, he1⟩ := hp
    exact wp_mono (hC n (by omega) N y hok.2 T1 H1 e T' H' h2 ψ a1 w1 hw1 ht1 hd1) fun e2 a2 w2 hp2 => Post.trans he1 hp2
   ·refine wp_mono (hC n (by omega) N x hok.1 T H e T' H' h1 φ a w hw ht hdef) fun e1 a1 w1 hp => ?_
    obtain ⟨rfl, hp⟩ := hp
    cases e with
    | norm => exact absurd rfl hne
    | exit k => exact ⟨rfl, hp⟩
    | ret => exact ⟨rfl, hp⟩
  | cond x p q =>
   simp only [codeOk, Bool.and_eq_true] at hok
   have h : onCond (cX x) T (ev P X n p T H) (ev P X n q T H) = .ok e T' H' := h
   cases hx : cX x with
   | none => rw [hx] at h; cases h
   | some x' =>
    rw [hx] at h
    have h : withX T x' Res.fail (fun v => asBoolC v .fail fun b => bif' b (ev P X n p T H) (ev P X n q T H)) = .ok e T' H' := h
    rcases withX_eq T x' Res.fail (fun v => asBoolC v .fail fun b => bif' b (ev P X n p T H) (ev P X n q T H)) with ⟨_, e1⟩ | ⟨v, hv, e1⟩ <;> rw [e1] at h
    ·cases h
    have hv' := evX_sound (a := a) (ht.at _) hx hv
    generalize hy : a.eval x = y at *
    cases hv' <;> try cases h
    rename_i b
    have h : bif' b (ev P X n p T H) (ev P X n q T H) = .ok e T' H' := h
    refine wp_cond hy ?_
    cases b
    ·exact hC n (by omega) N q hok.2 T H e T' H' h φ a w hw ht hdef
    ·exact hC n (by omega) N p hok.1 T H e T' H' h φ a w hw ht hdef
  | block id x =>
   have h : onBlock (ev P X n x T H) id = .ok e T' H' := h
   refine wp_block ?_
   cases h1 : ev P X n x T H with
   | fail => rw [h1] at h; cases h
   | ok e1 T1 H1 =>
    rw [h1] at h
    refine wp_mono (hC n (by omega) N x hok T H e1 T1 H1 h1 φ a w hw ht hdef) fun x1 a1 w1 hp => ?_
    obtain ⟨rfl, hp⟩ := hp
    cases e1 with
    | norm => cases h; exact ⟨rfl, hp⟩
    | ret => cases h; exact ⟨rfl, hp⟩
    | exit k =>
     have h : bif' (Nat.beq k id) (Res.ok .norm T1 H1) (.ok (.exit k) T1 H1) = .ok e T' H' := h
     show Exit.inBlock id _ (.exit k) a1 w1
     simp only [Exit.inBlock]
     by_cases hk : Nat.beq k id = true
     ·rw [hk] at h
      cases h
      rw [if_pos (Nat.eq_of_beq_eq_true hk)]
      exact ⟨rfl, hp⟩
     ·rw [eq_false_of_ne_true hk] at h
      cases h
      rw [if_neg (fun e => hk (by rw [e]; exact Nat.beq_refl id))]
      exact ⟨rfl, hp⟩
  | loop x =>
   refine wp_loop_n (fun m a' w' => m ≤ n + 1 ∧ ∃ T1 H1 ψ, ev P X m (.loop x) T1 H1 = .ok e T' H' ∧ TR P ψ N T1 a'.tmps ∧ WRel P ψ H1 w' ∧ Ext φ H w ψ H1 w' ∧ a'.defers = []) ?_ (n + 1) a w ⟨Nat.le_refl _, T, H, φ, h, ht, hw, Ext.refl _ _ _, hdef⟩
   rintro m a' w' ⟨hm, T1, H1, ψ, h1, ht1, hw1, he1, hd1⟩
   cases m with
   | zero => cases h1
   | succ m =>
    have h1 : onNorm (ev P X m x T1 H1) (ev P X m (.loop x)) = .ok e T' H' := h1
    rcases onNorm_ok h1 with ⟨T2, H2, h2, h3⟩ | ⟨h2, hne⟩
    ·refine wp_mono (hC m (by omega) N x hok T1 H1 _ T2 H2 h2 ψ a' w' hw1 ht1 hd1) fun e1 a1 w1 hp => ?_
     obtain ⟨rfl, hd2, χ, ht2, hw2, he2⟩ := hp
     exact ⟨m, by omega, by omega, T2, H2, χ, h3, ht2, hw2, he1.trans he2, hd2⟩
    ·refine wp_mono (hC m (by omega) N x hok T1 H1 e T' H' h2 ψ a' w' hw1 ht1 hd1) fun e1 a1 w1 hp => ?_
     obtain ⟨rfl, hp⟩ := hp
     cases e with
     | norm => exact absurd rfl hne
     | exit k => exact ⟨rfl, At2.trans he1 hp⟩
     | ret => exact ⟨rfl, At2.trans he1 hp⟩
  | rangeFunc f ps as b => cases h
  | exit id => cases h; exact wp_exit ⟨rfl, hdef, φ, ht, hw, Ext.refl _ _ _⟩
  | scope x => cases h
  | label l => cases h
  | goto l => cases h
  | ret => cases h; exact wp_ret ⟨rfl, hdef, φ, ht, hw, Ext.refl _ _ _⟩
  | refuse why => cases h
theorem argsC_eq {β : Type} : ∀ (l : List AV) (i : Nat) (T : Tr AV) (c : Tr AV → β), ∃ T', argsC l (keyOf i) T c = c T' ∧ ∀ j, T'.get (keyOf j) = if i ≤ j ∧ j < i + l.length then l[j - i]? else T.get (keyOf j)
 | [], i, T, c => ⟨T, rfl, fun j => by rw [if_neg (by simp)]⟩
 | v :: l, i, T, c => by
  have h1 : argsC (v :: l) (keyOf i) T c = T.setC (keyOf i) (some v) fun T => (keyOf i).succC fun k => argsC l k T c := rfl
  obtain ⟨T', h2, h3⟩ := argsC_eq l (i + 1) (T.set (keyOf i) (some v)) c
  refine ⟨T', ?_, fun j => ?_⟩
  ·rw [h1, Tr.setC_eq, K.succC_eq]; exact h2
  ·rw [h3 j, Tr.get_set]
   by_cases hj : j = i
   ·subst hj
    rw [if_neg (by omega), if_pos rfl, if_pos ⟨Nat.le_refl _, by simp⟩, Nat.sub_self]
    rfl
   ·by_cases hk : i + 1 ≤ j ∧ j < i + 1 + l.length
    ·rw [if_pos hk, if_pos (by simp; omega)]
     have : j - i = (j - (i + 1)) + 1 := by omega
     rw [this]; rfl
    ·rw [if_neg hk, if_neg (fun e => hj (keyOf_inj e.symm)), if_neg (by simp; omega)]
def resG (tmps : Array Value) : ResultVar → Sem Value
 | .tmp t => pure (tmps.getD t undef)
 | .cell a t => do loadVar t (← asAddr (tmps.getD a undef))
theorem gets_sound (hw : WRel P φ H w) {tmps : Array Value} {N : Nat} (ht : TR P φ N T tmps) {β : Type} (f : β) : ∀ (rs : List ResultVar) (ks : List RK) (c : List AV → β), resKs P rs = some ks →
  getsC T H ks f c = f ∨ ∃ vs vs', getsC T H ks f c = c vs ∧ VRels P φ vs vs' ∧ (rs.mapM (resG tmps)).run P w = .ok vs' w
 | [], ks, c, h => by cases h; exact .inr ⟨[], [], rfl, .nil, rfl⟩
 | .cell a t :: rs, ks, c, h => by
  simp only [resKs] at h
  obtain ⟨b, hb, h⟩ := bind_some h
  obtain ⟨n, hn, h⟩ := bind_some h
  obtain ⟨r, hr, rfl⟩ := map_some h
  have hrw : getsC T H (.cell (keyOf a) b n :: r) f c = Option.rec (motive := fun _ => β) f (fun v => asPtrC v f fun p off => ldV b n p off H f fun v => getsC T H r f fun r => c (v :: r)) (T.get (keyOf a)) := rfl
  rw [hrw]
  cases hv : T.get (keyOf a) with
  | none => exact .inl rfl
  | some v =>
   obtain ⟨v', h1, h2⟩ := ht.get a v hv
   cases h2 <;> try exact .inl rfl
   rename_i p off at_ hk
   have hrw2 : (Option.rec (motive := fun _ => β) f (fun v => asPtrC v f fun p off => ldV b n p off H f fun v => getsC T H r f fun r => c (v :: r)) (some (AV.ptr p off))) = ldV b n p off H f fun v => getsC T H r f fun r => c (v :: r) := rfl
   rw [hrw2]
   rcases ldV_sound hw hk hb hn off f (fun v => getsC T H r f fun r => c (v :: r)) with e | ⟨x, x', e, hx, hvr⟩ <;> rw [e]
   ·exact .inl rfl
   rcases gets_sound hw ht f rs r (fun r => c (x :: r)) hr with e | ⟨vs, vs', e, h3, h4⟩
   ·exact .inl e
   ·refine .inr ⟨x :: vs, x' :: vs', e, .cons _ _ _ _ hvr h3, ?_⟩
    have hg : tmps.getD a undef = .pointer (some ⟨at_.b, at_.o + off, none⟩) := by simp [Array.getD_eq_getD_getElem?, h1]
    simp only [List.mapM_cons, resG, hg, asAddr, Sem.run_bind, Sem.run_pure, Result.andThen_ok, hx, h4]
 | .tmp t :: rs, ks, c, h => by
  simp only [resKs] at h
  obtain ⟨r, hr, rfl⟩ := map_some h
  have hrw : getsC T H (.tmp (keyOf t) :: r) f c = Option.rec (motive := fun _ => β) f (fun v => getsC T H r f fun r => c (v :: r)) (T.get (keyOf t)) := rfl
  rw [hrw]
  cases hv : T.get (keyOf t) with
  | none => exact .inl rfl
  | some v =>
   obtain ⟨v', h1, h2⟩ := ht.get t v hv
   rcases gets_sound hw ht f rs r (fun r => c (v :: r)) hr with e | ⟨vs, vs', e, h3, h4⟩
   ·exact .inl e
   ·refine .inr ⟨v :: vs, v' :: vs', e, .cons _ _ _ _ h2 h3, ?_⟩
    have hg : tmps.getD t undef = v' := by simp [Array.getD_eq_getD_getElem?, h1]
    simp only [List.mapM_cons, resG, hg, Sem.run_bind, Sem.run_pure, Result.andThen_ok, h4]
def FnOk (P : Program) (f : FuncId) (args : List AV) (H : Heap) (Q : AV → Heap → Prop) : Prop :=
 ∀ (φ : Phi) (w : World) (args' : Array Value), VRels P φ args args'.toList → WRel P φ H w →
  Calls P f args' w fun e u => ∃ v G, Q v G ∧ ∃ ψ v', e = .returned v' ∧ VRel P ψ v v' ∧ WRel P ψ G u ∧ Ext φ H w ψ G u
def GoodX (P : Program) (X : Orc) : Prop := ∀ f args H r, X f args H = some r → ∀ v G, r = .ok v G → FnOk P f args H fun v' G' => v' = v ∧ G' = G
theorem FnOk.one {f : FuncId} {args : List AV} {v : AV} {G : Heap} (h : FnOk P f args H fun v' G' => v' = v ∧ G' = G) (φ : Phi) (w : World) (args' : Array Value) (ha : VRels P φ args args'.toList) (hw : WRel P φ H w) :
  Calls P f args' w fun e u => ∃ ψ v', e = .returned v' ∧ VRel P ψ v v' ∧ WRel P ψ G u ∧ Ext φ H w ψ G u :=
 (h φ w args' ha hw).mono fun e u ⟨_, _, ⟨e1, e2⟩, hr⟩ => by subst e1 e2; exact hr
theorem call_sound {X : Orc} (hX : GoodX P X) {n : Nat} (hC : ∀ N c, codeOk N c = true → CodeGood P X N n c) : Good P (callStep P X (ev P X n)) := by
 intro f args H v G h φ w args' ha hw
 unfold callStep at h
 cases hXf : X f args H with
 | some r => rw [hXf] at h; exact (hX f args H r hXf v G h).one φ w args' ha hw
 | none =>
 rw [hXf] at h
 have h : (Option.rec (motive := fun _ => RC) .fail (fun fn => callFn P (ev P X n) fn args H) (P.funcs[f]?) : RC) = .ok v G := h
 cases hf : P.funcs[f]? with
 | none => rw [hf] at h; cases h
 | some fn =>
  rw [hf] at h
  have h : callFn P (ev P X n) fn args H = .ok v G := h
  unfold callFn at h
  cases hb : fn.body with
  | none => rw [hb] at h; cases h
  | some c =>
   rw [hb] at h
   have h : bif' (codeOk fn.ntmps c) (argsC args .z .lf fun T => finC (resKs P fn.results.toList) (ev P X n c T H)) .fail = .ok v G := h
   by_cases hok : codeOk fn.ntmps c = true
   case neg => rw [eq_false_of_ne_true hok] at h; cases h
   rw [hok, bif_true] at h
   obtain ⟨T, e1, hT⟩ := argsC_eq args 0 .lf (fun T => finC (resKs P fn.results.toList) (ev P X n c T H))
   have e1 : (argsC args .z .lf fun T => finC (resKs P fn.results.toList) (ev P X n c T H)) = finC (resKs P fn.results.toList) (ev P X n c T H) := e1
   rw [e1] at h
   cases hk : resKs P fn.results.toList with
   | none => rw [hk] at h; cases h
   | some ks =>
    rw [hk] at h
    have hlen := ha.length
    have ht : TR P φ fn.ntmps T (args' ++ Array.replicate (fn.ntmps - args'.size) undef) := by
     refine ⟨by simp; omega, fun t x hx => ?_⟩
     rw [hT] at hx
     split at hx
     ·obtain ⟨x', h1, h2⟩ := ha.nth (t - 0) hx
      refine ⟨x', ?_, h2⟩
      have hlt : t < args'.size := by
       have := (List.getElem?_eq_some_iff.1 h1).1
       simpa using this
      rw [Array.getElem?_append_left hlt]
      simpa using h1
     ·rw [Tr.get_lf] at hx; cases hx
    cases hev : ev P X n c T H with
    | fail => rw [hev] at h; cases h
    | ok e T' H' =>
     rw [hev] at h
     refine calls_of_wp hf hb ?_
     refine wp_mono (hC _ c hok T H e T' H' hev φ { tmps := args' ++ Array.replicate (fn.ntmps - args'.size) undef, defers := [] } w hw ht rfl) fun x a1 w1 hp => ?_
     obtain ⟨rfl, hd1, ψ, ht1, hw1, he1⟩ := hp
     have fin : resV T' H' ks = .ok v G → a1.defers = [] ∧ ∃ r, (results fn a1.tmps).run P w1 = .ok r w1 ∧ ∃ ψ v', Ending.returned r = .returned v' ∧ VRel P ψ v v' ∧ WRel P ψ G w1 ∧ Ext φ H w ψ G w1 := by
      intro hres
      refine ⟨hd1, ?_⟩
      unfold resV at hres
      rcases gets_sound hw1 ht1 RC.fail fn.results.toList ks (fun vs => List.rec (motive := fun _ => RC) (.ok (.tup []) H') (fun v r _ => List.rec (motive := fun _ => RC) (.ok v H') (fun _ _ _ => .ok (.tup vs) H') r) vs) hk with e2 | ⟨vs, vs', e2, h3, h4⟩ <;> rw [e2] at hres
      ·cases hres
      have hrun : (results fn a1.tmps).run P w1 = .ok (if h : vs'.toArray.size = 1 then vs'.toArray[0] else .tuple vs'.toArray) w1 := by
       show (do let vs ← fn.results.mapM (resG a1.tmps); pure (if h : vs.size = 1 then vs[0] else Value.tuple vs) : Sem Value).run P w1 = _
       rw [Array.mapM_eq_mapM_toList]
       simp only [Sem.run_bind, Sem.run_map, h4, Result.andThen_ok, Sem.run_pure]
      refine ⟨_, hrun, ψ, _, rfl, ?_, ?_⟩
      ·cases h3 with
       | nil => cases hres; exact .tup _ #[] .nil
       | cons x l x' l' hx hl =>
        cases hl with
        | nil => cases hres; exact hx
        | cons y l y' l' hy hl =>
         cases hres
         rw [dif_neg (by simp)]
         exact .tup _ _ (.cons _ _ _ _ hx (.cons _ _ _ _ hy hl))
      ·have : H' = G := by
        cases vs with
        | nil => cases hres; rfl
        | cons x l => cases l with
         | nil => cases hres; rfl
         | cons y l => cases hres; rfl
       subst this
       exact ⟨hw1, he1⟩
     cases e with
     | norm => exact fin h
     | ret => exact fin h
     | exit k => cases h
theorem ev_good (P : Program) {X : Orc} (hX : GoodX P X) : ∀ n, (∀ N c, codeOk N c = true → CodeGood P X N n c) := by
 intro n
 induction n using Nat.strongRecOn with
 | _ n ih => exact code_sound n (fun m hm => call_sound hX (ih m hm)) ih
theorem evFn_sound (P : Program) {X : Orc} (hX : GoodX P X) (n : Nat) : Good P (evFn P X n) := call_sound hX (ev_good P hX n)
theorem FnOk.of_ev {X : Orc} (hX : GoodX P X) {n : Nat} {f : FuncId} {args : List AV} {v : AV} {G : Heap} (h : evFn P X n f args H = .ok v G) : FnOk P f args H fun v' G' => v' = v ∧ G' = G :=
 fun φ w args' ha hw => (evFn_sound P hX n f args H v G h φ w args' ha hw).mono fun _ _ hr => ⟨v, G, ⟨rfl, rfl⟩, hr⟩
end Go.Ev
namespace Go.Ev
variable {P : Program} {φ : Phi} {H : Heap} {w u : World} {T : Tr AV} {a : Act}
theorem FnOk.mono {f : FuncId} {args : List AV} {Q R : AV → Heap → Prop} (h : FnOk P f args H Q) (hq : ∀ v G, Q v G → R v G) : FnOk P f args H R :=
 fun φ w args' ha hw => (h φ w args' ha hw).mono fun _ _ ⟨v, G, q, hr⟩ => ⟨v, G, hq v G q, hr⟩
def Tri (P : Program) (N : Nat) (H0 : Heap) (c : Code) (T : Tr AV) (H : Heap) (Q : Ex → Tr AV → Heap → Prop) : Prop :=
 ∀ (φ0 : Phi) (w0 : World) (a : Act) (u : World), WRel P φ0 H0 w0 → At2 P φ0 H0 w0 N T H a u → c.wp P (fun x a' u' => ∃ e T' H', Q e T' H' ∧ x = exOf e ∧ At2 P φ0 H0 w0 N T' H' a' u') a u
section
variable {N : Nat} {H0 : Heap} {c x y : Code} {Q R : Ex → Tr AV → Heap → Prop}
theorem Tri.mono (h : Tri P N H0 c T H Q) (hq : ∀ e T H, Q e T H → R e T H) : Tri P N H0 c T H R :=
 fun φ0 w0 a u h0 ha => wp_mono (h φ0 w0 a u h0 ha) fun _ _ _ ⟨e, T', H', q, hr⟩ => ⟨e, T', H', hq _ _ _ q, hr⟩
theorem Tri.skip (h : Q .norm T H) : Tri P N H0 .skip T H Q := fun _ _ _ _ _ ha => wp_skip ⟨.norm, T, H, h, rfl, ha⟩
theorem Tri.ret (h : Q .ret T H) : Tri P N H0 .ret T H Q := fun _ _ _ _ _ ha => wp_ret ⟨.ret, T, H, h, rfl, ha⟩
theorem Tri.exit {id : Nat} (h : Q (.exit id) T H) : Tri P N H0 (.exit id) T H Q := fun _ _ _ _ _ ha => wp_exit ⟨.exit id, T, H, h, rfl, ha⟩
def behind (K : Tr AV → Heap → Prop) (Q : Ex → Tr AV → Heap → Prop) : Ex → Tr AV → Heap → Prop
 | .norm, T, H => K T H
 | e, T, H => Q e T H
theorem Tri.seq (h : Tri P N H0 x T H (behind (fun T H => Tri P N H0 y T H Q) Q)) : Tri P N H0 (.seq x y) T H Q := by
 intro φ0 w0 a u h0 ha
 refine wp_seq (wp_mono (h φ0 w0 a u h0 ha) ?_)
 rintro _ a1 u1 ⟨e, T1, H1, q, rfl, h1⟩
 cases e with
 | norm => exact q φ0 w0 a1 u1 h0 h1
 | exit n => exact ⟨.exit n, T1, H1, q, rfl, h1⟩
 | ret => exact ⟨.ret, T1, H1, q, rfl, h1⟩
theorem Tri.cond {o : Operand} {b : Bool} (hb : ∀ x, cX o = some x → evX T x = some (.bool b)) (hx : (cX o).isSome) (ht : b = true → Tri P N H0 x T H Q) (hf : b = false → Tri P N H0 y T H Q) : Tri P N H0 (.cond o x y) T H Q := by
 intro φ0 w0 a u h0 ha
 obtain ⟨hd, ψ, htr, hw, he⟩ := ha
 cases hc : cX o with
 | none => rw [hc] at hx; cases hx
 | some z =>
  have hv := evX_sound (P := P) (φ := ψ) (a := a) (htr.at _) hc (hb z hc)
  generalize hy : a.eval o = v at hv
  cases hv
  refine wp_cond hy ?_
  cases b
  ·exact hf rfl φ0 w0 a u h0 ⟨hd, ψ, htr, hw, he⟩
  ·exact ht rfl φ0 w0 a u h0 ⟨hd, ψ, htr, hw, he⟩
def outOf (id : Nat) (Q : Ex → Tr AV → Heap → Prop) : Ex → Tr AV → Heap → Prop
 | .exit n, T, H => if n = id then Q .norm T H else Q (.exit n) T H
 | e, T, H => Q e T H
theorem Tri.block {id : Nat} (h : Tri P N H0 x T H (outOf id Q)) : Tri P N H0 (.block id x) T H Q := by
 intro φ0 w0 a u h0 ha
 refine wp_block (wp_mono (h φ0 w0 a u h0 ha) ?_)
 rintro _ a1 u1 ⟨e, T1, H1, q, rfl, h1⟩
 cases e with
 | norm => exact ⟨.norm, T1, H1, q, rfl, h1⟩
 | ret => exact ⟨.ret, T1, H1, q, rfl, h1⟩
 | exit k =>
  show Exit.inBlock id _ (.exit k) a1 u1
  simp only [Exit.inBlock]
  unfold outOf at q
  simp only at q
  split at q
  ·rename_i e
   rw [if_pos e]
   exact ⟨.norm, T1, H1, q, rfl, h1⟩
  ·rename_i e
   rw [if_neg e]
   exact ⟨.exit k, T1, H1, q, rfl, h1⟩
theorem Tri.loop (I : Nat → Tr AV → Heap → Prop) (h : ∀ m T H, I m T H → Tri P N H0 x T H (behind (fun T H => ∃ m', m' < m ∧ I m' T H) Q)) {m : Nat} (hi : I m T H) : Tri P N H0 (.loop x) T H Q := by
 intro φ0 w0 a u h0 ha
 refine wp_loop_n (fun m a u => ∃ T H, I m T H ∧ At2 P φ0 H0 w0 N T H a u) ?_ m a u ⟨T, H, hi, ha⟩
 rintro m a u ⟨T, H, hi, ha⟩
 refine wp_mono (h m T H hi φ0 w0 a u h0 ha) ?_
 rintro _ a1 u1 ⟨e, T1, H1, q, rfl, h1⟩
 cases e with
 | norm => obtain ⟨m', hm, hi'⟩ := q; exact ⟨m', hm, T1, H1, hi', h1⟩
 | exit n => exact ⟨.exit n, T1, H1, q, rfl, h1⟩
 | ret => exact ⟨.ret, T1, H1, q, rfl, h1⟩
end
def R1.go (P : Program) (H : Heap) (r : R1) (K : AV → Heap → Prop) : Prop := match r with
 | .fail => False
 | .val v G => K v G
 | .call f args => FnOk P f args H K
def Stp.go (P : Program) : Stp → Tr AV → Heap → (Tr AV → Heap → Prop) → Prop
 | .mk g dst gd _, T, H, K => gdC T gd False ((g T H).go P H fun v G => putT T dst v fun T => K T G) (putT T dst (.tup []) fun T => K T H)
def Stp.goes (P : Program) : List Stp → Tr AV → Heap → (Tr AV → Heap → Prop) → Prop
 | [], T, H, K => K T H
 | s :: l, T, H, K => s.go P T H fun T H => Stp.goes P l T H K
theorem op_go {ops : Array Oper} {Q : Exit → Act → World → Prop} {N : Nat} {i : Nat} {o : Oper} (ho : ops[i]? = some o) {st : Stp} (hst : stpOf P ops o = some st) (hd : ∀ d, o.dst = some d → d < N)
  {φ0 : Phi} {H0 : Heap} {w0 : World} (hat : At2 P φ0 H0 w0 N T H a w) {K : Tr AV → Heap → Prop} (h : st.go P T H K) {next : Act → World → Prop}
  (hn : ∀ T' H' a' u, K T' H' → At2 P φ0 H0 w0 N T' H' a' u → next a' u) : wpOp P ops Q i next a w := by
 obtain ⟨hdef, φ, ht, hw, he0⟩ := hat
 unfold stpOf at hst
 obtain ⟨g, hg, hst⟩ := bind_some hst
 obtain ⟨gd, hgd, rfl⟩ := map_some hst
 have h : gdC T gd False ((g T H).go P H fun v G => putT T (o.dst.map keyOf) v fun T => K T G) (putT T (o.dst.map keyOf) (.tup []) fun T => K T H) := h
 rcases gdC_sound hgd (ht.at _) False ((g T H).go P H fun v G => putT T (o.dst.map keyOf) v fun T => K T G) (putT T (o.dst.map keyOf) (.tup []) fun T => K T H) with e | ⟨e, hwant⟩ | ⟨e, hwant⟩ <;> rw [e] at h
 ·exact h.elim
 ·have hran := cop_sound (a := a) (T := T) hw hg (ht.at _)
  unfold wpOp
  rw [ho]
  simp only [hwant, if_true]
  left
  cases hr : g T H with
  | fail => rw [hr] at h; exact h.elim
  | val v G =>
   rw [hr] at hran h
   obtain ⟨T1, hp, e1⟩ := putT_sel T (o.dst.map keyOf) v
   have h : putT T (o.dst.map keyOf) v (fun T => K T G) := h
   rw [e1] at h
   cases hran with
   | val v G nx v' u ψ hrun hnx hw' he hv =>
    have hfin : At2 P φ0 H0 w0 N T1 G (a.put o.dst v') u := ⟨by cases hod : o.dst <;> simp [Act.put, hdef], ψ, (ht.mono (he.le hw)).put hd hv hp, hw', he0.trans he⟩
    unfold Oper.wp
    rw [hrun]
    rcases hnx with rfl | ⟨rfl, rfl⟩
    ·exact hn _ _ _ _ h hfin
    ·exact hn _ _ _ _ h hfin
  | call fn args =>
   rw [hr] at hran h
   have h : FnOk P fn args H fun v G => putT T (o.dst.map keyOf) v fun T => K T G := h
   cases hran with
   | call fn args args' hrun ha =>
    unfold Oper.wp
    rw [hrun]
    refine (h φ w args' ha hw).mono fun e u ⟨v, G, hk, ψ, v', he1, hv, hw', he⟩ => ?_
    subst he1
    obtain ⟨T1, hp, e1⟩ := putT_sel T (o.dst.map keyOf) v
    have hk : putT T (o.dst.map keyOf) v (fun T => K T G) := hk
    rw [e1] at hk
    exact hn _ _ _ _ hk ⟨by cases hod : o.dst <;> simp [Act.put, hdef], ψ, (ht.mono (he.le hw)).put hd hv hp, hw', he0.trans he⟩
 ·obtain ⟨T1, hp, e1⟩ := putT_sel T (o.dst.map keyOf) (.tup [])
  rw [e1] at h
  unfold wpOp
  rw [ho]
  simp only [hwant]
  exact hn _ _ _ _ h ⟨by cases hod : o.dst <;> simp [Act.put, hdef], φ, ht.put hd (.tup _ #[] .nil) hp, hw, he0⟩
theorem steps_go {ops : Array Oper} {Q : Exit → Act → World → Prop} {N : Nat} {φ0 : Phi} {H0 : Heap} {w0 : World} {K : Tr AV → Heap → Prop} (hQ : ∀ T' H' a' u, K T' H' → At2 P φ0 H0 w0 N T' H' a' u → Q .normal a' u) :
  ∀ (l : List Oper) (k : Nat) (sts : List Stp), (∀ j, j < l.length → ops[k + j]? = l[j]?) → planL P ops l = some sts → (∀ o ∈ l, ∀ d, o.dst = some d → d < N) →
   ∀ (T : Tr AV) (H : Heap) (a : Act) (w : World), At2 P φ0 H0 w0 N T H a w → Stp.goes P sts T H K → wpOps P ops Q ((List.range l.length).map (k + ·)) a w
 | [], k, sts, _, hp, _, T, H, a, w, ha, h => by
  simp only [planL, Option.some.injEq] at hp
  subst hp
  exact hQ _ _ _ _ h ha
 | o :: l, k, sts, hl, hp, hd, T, H, a, w, ha, h => by
  simp only [planL] at hp
  obtain ⟨st, hst, hp⟩ := bind_some hp
  obtain ⟨r, hr, rfl⟩ := map_some hp
  have ho : ops[k]? = some o := by have := hl 0 (by simp); simpa using this
  have hrest : ∀ j, j < l.length → ops[k + 1 + j]? = l[j]? := fun j hj => by
   have := hl (j + 1) (by simp; omega)
   rw [show k + (j + 1) = k + 1 + j by omega] at this
   simpa using this
  have hlist : (List.range (o :: l).length).map (k + ·) = k :: (List.range l.length).map (k + 1 + ·) := by
   rw [List.length_cons, List.range_succ_eq_map, List.map_cons, List.map_map]
   congr 1
   apply List.map_congr_left
   intro j _
   simp only [Function.comp]
   omega
  rw [hlist, wpOps_cons]
  exact op_go ho hst (hd o (by simp)) ha h fun T1 H1 a1 w1 h1 h2 => steps_go hQ l (k + 1) r hrest hr (fun o ho => hd o (by simp [ho])) T1 H1 a1 w1 h2 h1
theorem Tri.region {N id : Nat} {H0 : Heap} {ops : Array Oper} {Q : Ex → Tr AV → Heap → Prop} {sts : List Stp} (hok : codeOk N (.region id ops false) = true) (hp : planL P ops ops.toList = some sts) (h : Stp.goes P sts T H fun T H => Q .norm T H) :
  Tri P N H0 (.region id ops false) T H Q := by
 intro φ0 w0 a u h0 ha
 have hd : ∀ o ∈ ops.toList, ∀ d, o.dst = some d → d < N := by
  intro o ho d hd
  simp only [codeOk, List.all_eq_true] at hok
  have := hok o ho
  rw [hd] at this
  exact Nat.le_of_ble_eq_true this
 refine wp_region ?_
 have := steps_go (P := P) (ops := ops) (Q := fun x a' u' => ∃ e T' H', Q e T' H' ∧ x = exOf e ∧ At2 P φ0 H0 w0 N T' H' a' u') (K := fun T H => Q .norm T H) (fun T' H' a' u' hk hat => ⟨.norm, T', H', hk, rfl, hat⟩)
  ops.toList 0 sts (fun j hj => by simp) hp hd T H a u ha h
 simpa using this
theorem Tri.regionD {N id : Nat} {H0 : Heap} {ops : Array Oper} {Q : Ex → Tr AV → Heap → Prop} {sts : List Stp} (hok : codeOk N (.region id ops true) = true) (hm : P.follows .mixedOrders = true) (hp : planD P ops = some sts)
  {E : FuncId → List AV → Heap → RC} (hE : Good P E) {eqv : AV → AV → Bool} (heq : ∀ a b, eqv a b = true → a = b) {T' : Tr AV} {H' : Heap} (hs : stepsR eqv E sts T H = some (T', H')) (h : Q .norm T' H') : Tri P N H0 (.region id ops true) T H Q := by
 intro φ0 w0 a u h0 ha
 obtain ⟨hdef, φ, ht, hw, he⟩ := ha
 have hd : ∀ o ∈ ops.toList, ∀ d, o.dst = some d → d < N := by
  intro o ho d hd
  simp only [codeOk, List.all_eq_true] at hok
  have := hok o ho
  rw [hd] at this
  exact Nat.le_of_ble_eq_true this
 obtain ⟨hst, ord, hplan, hcov⟩ := planD_sound (N := N) (fun i o t ho hd' => hd o (by simpa using Array.mem_of_getElem? ho) t hd') hp
 have hnl : ∀ i, ¬ lst (Array.replicate ops.size false) i := by
  intro i hi
  unfold lst at hi
  simp only [Array.getD_eq_getD_getElem?, Array.getElem?_replicate] at hi
  split at hi <;> simp at hi
 refine wp_region_any hm ?_
 refine any_sound heq hE hst hplan hcov (φ0 := φ) (H0 := H) (w0 := { u with drawn := u.drawn + 1 }) (T1 := T') (H1 := H') (fun a' v hv => ⟨.norm, T', H', h, rfl, hv.1, let ⟨ψ, h1, h2, h3⟩ := hv.2; ⟨ψ, h1, h2, he.trans (h3.drew0 _)⟩⟩) ops.size (List.range ops.size) (by simp) _ [] ord sts T H φ a _ (fun _ => none)
  (fun j hj _ => by simpa using hj) hplan (fun j hj => .inr (hcov j hj)) ?_ hs
 exact ⟨by simp, fun i o _ h => absurd h (hnl i), fun i h => absurd h (hnl i), by simp, by simp, by simp, by simp, by simp, ht.size, fun t v hv => .inr (ht.get t v hv), hw.drew _, Ext.refl _ _ _, hdef⟩
def packC (vs : List AV) : AV := match vs with
 | [v] => v
 | vs => .tup vs
theorem FnOk.of_tri {f : FuncId} {fn : Func} {c : Code} {ks : List RK} {args : List AV} {Q : AV → Heap → Prop} (hf : P.funcs[f]? = some fn) (hb : fn.body = some c) (hk : resKs P fn.results.toList = some ks)
  {T0 : Tr AV} (hT : argsC args .z .lf (fun T => T) = T0)
  (h : Tri P fn.ntmps H c T0 H fun e T' H' => (match e with | .exit _ => False | _ => True) ∧ getsC T' H' ks False fun vs => Q (packC vs) H') : FnOk P f args H Q := by
 intro φ w args' ha hw
 obtain ⟨T, e1, hT'⟩ := argsC_eq args 0 .lf (fun T => T)
 have e1 : argsC args .z .lf (fun T => T) = T := e1
 rw [e1] at hT
 subst hT
 have ht : TR P φ fn.ntmps T (args' ++ Array.replicate (fn.ntmps - args'.size) undef) := by
  have hlen := ha.length
  refine ⟨by simp; omega, fun t x hx => ?_⟩
  rw [hT'] at hx
  split at hx
  ·obtain ⟨x', h1, h2⟩ := ha.nth (t - 0) hx
   refine ⟨x', ?_, h2⟩
   have hlt : t < args'.size := by
    have := (List.getElem?_eq_some_iff.1 h1).1
    simpa using this
   rw [Array.getElem?_append_left hlt]
   simpa using h1
  ·rw [Tr.get_lf] at hx; cases hx
 refine calls_of_wp hf hb ?_
 refine wp_mono (h φ w { tmps := args' ++ Array.replicate (fn.ntmps - args'.size) undef, defers := [] } w hw ⟨rfl, φ, ht, hw, Ext.refl _ _ _⟩) ?_
 rintro _ a1 w1 ⟨e, T1, H1, ⟨hne, hq⟩, rfl, hd1, ψ, ht1, hw1, he1⟩
 have fin : a1.defers = [] ∧ ∃ r, (results fn a1.tmps).run P w1 = .ok r w1 ∧ ∃ v G, Q v G ∧ ∃ ψ v', Ending.returned r = .returned v' ∧ VRel P ψ v v' ∧ WRel P ψ G w1 ∧ Ext φ H w ψ G w1 := by
  refine ⟨hd1, ?_⟩
  rcases gets_sound hw1 ht1 False fn.results.toList ks (fun vs => Q (packC vs) H1) hk with e2 | ⟨vs, vs', e2, h3, h4⟩ <;> rw [e2] at hq
  ·exact hq.elim
  have hrun : (results fn a1.tmps).run P w1 = .ok (if h : vs'.toArray.size = 1 then vs'.toArray[0] else .tuple vs'.toArray) w1 := by
   show (do let vs ← fn.results.mapM (resG a1.tmps); pure (if h : vs.size = 1 then vs[0] else Value.tuple vs) : Sem Value).run P w1 = _
   rw [Array.mapM_eq_mapM_toList]
   simp only [Sem.run_bind, Sem.run_map, h4, Result.andThen_ok, Sem.run_pure]
  refine ⟨_, hrun, packC vs, H1, hq, ψ, _, rfl, ?_, hw1, he1⟩
  cases h3 with
  | nil => exact .tup _ #[] .nil
  | cons x l x' l' hx hl =>
   cases hl with
   | nil => exact hx
   | cons y l y' l' hy hl =>
    rw [dif_neg (by simp)]
    exact .tup _ _ (.cons _ _ _ _ hx (.cons _ _ _ _ hy hl))
 cases e with
 | norm => exact fin
 | ret => exact fin
 | exit k => exact hne.elim
end Go.Ev
namespace Go.Ev
variable {P : Program} {φ ψ : Phi} {H : Heap} {w u : World} {T : Tr AV} {a : Act}
theorem nrf {α : Sort _} {a b : α} (h : a = b) : a = b := h
namespace Tr
variable {α : Type}
theorem set_lf_z (v : Option α) : set (lf : Tr α) .z v = nd lf v lf := nrf rfl
theorem set_nd_z (v : Option α) (l r x) : set (nd l x r) .z v = nd l v r := nrf rfl
theorem set_lf_o (v : Option α) (k) : set (lf : Tr α) (.o k) v = nd (set lf k v) none lf := by
 show setC (lf : Tr α) k v (fun l => nd l none lf) = _; rw [setC_eq]
theorem set_lf_i (v : Option α) (k) : set (lf : Tr α) (.i k) v = nd lf none (set lf k v) := by
 show setC (lf : Tr α) k v (fun l => nd lf none l) = _; rw [setC_eq]
theorem set_nd_o (v : Option α) (k l x r) : set (nd l x r) (.o k) v = nd (set l k v) x r := by
 show setC l k v (fun l => nd l x r) = _; rw [setC_eq]
theorem set_nd_i (v : Option α) (k l x r) : set (nd l x r) (.i k) v = nd l x (set r k v) := by
 show setC r k v (fun r => nd l x r) = _; rw [setC_eq]
theorem get_z (l r : Tr α) (v) : get (nd l v r) .z = v := nrf rfl
theorem get_o (l r : Tr α) (v) (k) : get (nd l v r) (.o k) = get l k := nrf rfl
theorem get_i (l r : Tr α) (v) (k) : get (nd l v r) (.i k) = get r k := nrf rfl
theorem set_set (v x : Option α) : ∀ (k : K) (t : Tr α), set (set t k v) k x = set t k x
 | .z, lf => rfl
 | .z, nd _ _ _ => rfl
 | .o k, lf => by simp only [set_lf_o, set_nd_o, set_set v x k]
 | .o k, nd _ _ _ => by simp only [set_nd_o, set_set v x k]
 | .i k, lf => by simp only [set_lf_i, set_nd_i, set_set v x k]
 | .i k, nd _ _ _ => by simp only [set_nd_i, set_set v x k]
theorem set_comm (v x : Option α) : ∀ (j k : K) (t : Tr α), j ≠ k → set (set t j v) k x = set (set t k x) j v
 | .z, .z, _, h => absurd rfl h
 | .z, .o k, lf, _ => by simp only [set_lf_o, set_lf_z, set_nd_o, set_nd_z]
 | .z, .i k, lf, _ => by simp only [set_lf_i, set_lf_z, set_nd_i, set_nd_z]
 | .z, .o k, nd _ _ _, _ => by simp only [set_nd_o, set_nd_z]
 | .z, .i k, nd _ _ _, _ => by simp only [set_nd_i, set_nd_z]
 | .o j, .z, lf, _ => by simp only [set_lf_o, set_lf_z, set_nd_o, set_nd_z]
 | .i j, .z, lf, _ => by simp only [set_lf_i, set_lf_z, set_nd_i, set_nd_z]
 | .o j, .z, nd _ _ _, _ => by simp only [set_nd_o, set_nd_z]
 | .i j, .z, nd _ _ _, _ => by simp only [set_nd_i, set_nd_z]
 | .o j, .i k, lf, _ => by simp only [set_lf_o, set_lf_i, set_nd_o, set_nd_i]
 | .i j, .o k, lf, _ => by simp only [set_lf_o, set_lf_i, set_nd_o, set_nd_i]
 | .o j, .i k, nd _ _ _, _ => by simp only [set_nd_o, set_nd_i]
 | .i j, .o k, nd _ _ _, _ => by simp only [set_nd_o, set_nd_i]
 | .o j, .o k, lf, h => by simp only [set_lf_o, set_nd_o, set_comm v x j k lf (fun e => h (e ▸ rfl))]
 | .i j, .i k, lf, h => by simp only [set_lf_i, set_nd_i, set_comm v x j k lf (fun e => h (e ▸ rfl))]
 | .o j, .o k, nd l _ _, h => by simp only [set_nd_o, set_comm v x j k l (fun e => h (e ▸ rfl))]
 | .i j, .i k, nd _ _ r, h => by simp only [set_nd_i, set_comm v x j k r (fun e => h (e ▸ rfl))]
end Tr
namespace Heap
def ok (H : Heap) : Prop := ∀ k b, H.get k = some b → k.toNat < H.nx.toNat
noncomputable def keyS : K → Nat → K
 | k, 0 => k
 | k, i + 1 => keyS k.succ i
noncomputable def key (H : Heap) (i : Nat) : K := keyS H.nx i
noncomputable def ext (H : Heap) : List Blk → Heap
 | [] => H
 | b :: l => (H.add b).ext l
theorem toNat_keyS : ∀ (i : Nat) (k : K), (keyS k i).toNat = k.toNat + i
 | 0, k => rfl
 | i + 1, k => by show (keyS k.succ i).toNat = _; rw [toNat_keyS i, K.toNat_succ]; omega
theorem toNat_key (H : Heap) (i : Nat) : (H.key i).toNat = H.nx.toNat + i := toNat_keyS i _
theorem key_inj {H : Heap} {i j : Nat} (h : H.key i = H.key j) : i = j := by
 have := congrArg K.toNat h; rw [toNat_key, toNat_key] at this; omega
theorem key_add (H : Heap) (b : Blk) (i : Nat) : (H.add b).key i = H.key (i + 1) := rfl
theorem key_zero (H : Heap) : H.key 0 = H.nx := rfl
theorem ext_nil (H : Heap) : H.ext [] = H := rfl
theorem ext_append : ∀ (l m : List Blk) (H : Heap), (H.ext l).ext m = H.ext (l ++ m)
 | [], _, _ => rfl
 | b :: l, m, H => ext_append l m (H.add b)
theorem ext_one (H : Heap) (b : Blk) : H.ext [b] = H.add b := rfl
theorem nx_ext : ∀ (l : List Blk) (H : Heap), (H.ext l).nx = H.key l.length
 | [], _ => rfl
 | b :: l, H => by show ((H.add b).ext l).nx = _; rw [nx_ext l, key_add]; rfl
theorem key_ext (l : List Blk) (H : Heap) (i : Nat) : (H.ext l).key i = H.key (l.length + i) := by
 apply K.toNat_inj
 rw [toNat_key, nx_ext, toNat_key, toNat_key]; omega
theorem ext_add (H : Heap) (l : List Blk) (b : Blk) : (H.ext l).add b = H.ext (l ++ [b]) := by rw [← ext_append]; rfl
theorem addC_ext {α : Type} (H : Heap) (l : List Blk) (b : Blk) (c : K → Heap → α) : (H.ext l).addC b c = c (H.key l.length) (H.ext (l ++ [b])) := by
 rw [addC_eq, nx_ext, ext_add]
theorem get_ext : ∀ (l : List Blk) (H : Heap) (k : K), (H.ext l).get k = if H.nx.toNat ≤ k.toNat ∧ k.toNat < H.nx.toNat + l.length then l[k.toNat - H.nx.toNat]? else H.get k
 | [], H, k => by rw [if_neg (by simp)]; rfl
 | b :: l, H, k => by
  show ((H.add b).ext l).get k = _
  have hnx : (H.add b).nx.toNat = H.nx.toNat + 1 := by rw [nx_add, K.toNat_succ]
  rw [get_ext l, hnx]
  by_cases h : H.nx.toNat + 1 ≤ k.toNat ∧ k.toNat < H.nx.toNat + 1 + l.length
  ·rw [if_pos h, if_pos (by simp; omega)]
   rw [show k.toNat - H.nx.toNat = (k.toNat - (H.nx.toNat + 1)) + 1 by omega]; rfl
  ·rw [if_neg h, get_add]
   by_cases e : H.nx = k
   ·subst e; rw [if_pos rfl, if_pos (by simp), Nat.sub_self]; rfl
   ·have : H.nx.toNat ≠ k.toNat := fun h => e (K.toNat_inj h)
    rw [if_neg e, if_neg (by simp; omega)]
theorem get_ext_key (H : Heap) (l : List Blk) (i : Nat) (h : i < l.length) : (H.ext l).get (H.key i) = l[i]? := by
 rw [get_ext, toNat_key, if_pos ⟨by omega, by omega⟩, Nat.add_sub_cancel_left]
theorem get_ext_lt (H : Heap) (l : List Blk) (k : K) (h : k.toNat < H.nx.toNat) : (H.ext l).get k = H.get k := by
 rw [get_ext, if_neg (by omega)]
theorem get_ext_old {H : Heap} (ho : H.ok) {k : K} {b : Blk} (h : H.get k = some b) (l : List Blk) : (H.ext l).get k = some b := by
 rw [get_ext_lt _ _ _ (ho k b h), h]
theorem ok_ext {H : Heap} (ho : H.ok) (l : List Blk) : (H.ext l).ok := by
 intro k b h
 rw [nx_ext, toNat_key]
 rw [get_ext] at h
 split at h
 ·omega
 ·have := ho k b h; omega
theorem set_add (H : Heap) (j : K) (b c : Blk) (h : j ≠ H.nx) : (H.add b).set j c = (H.set j c).add b := by
 show Heap.mk _ ((H.t.set H.nx (some b)).set j (some c)) = Heap.mk _ ((H.t.set j (some c)).set H.nx (some b))
 rw [Tr.set_comm _ _ _ _ _ (Ne.symm h)]; rfl
theorem set_ext_key : ∀ (l : List Blk) (H : Heap) (i : Nat) (b : Blk), i < l.length → (H.ext l).set (H.key i) b = H.ext (l.set i b)
 | [], _, i, _, h => by simp at h
 | c :: l, H, i + 1, b, h => by
  show ((H.add c).ext l).set (H.key (i + 1)) b = (H.add c).ext (l.set i b)
  rw [← key_add H c, set_ext_key l (H.add c) i b (by simpa using h)]
 | c :: l, H, 0, b, _ => by
  show ((H.add c).ext l).set H.nx b = (H.add b).ext l
  have key : ∀ (l : List Blk) (G : Heap) (k : K), k.toNat < G.nx.toNat → (G.ext l).set k b = (G.set k b).ext l := by
   intro l
   induction l with
   | nil => intros; rfl
   | cons d l ih =>
    intro G k hk
    show ((G.add d).ext l).set k b = ((G.set k b).add d).ext l
    rw [ih (G.add d) k (by rw [nx_add, K.toNat_succ]; omega), set_add _ _ _ _ (fun e => by rw [e] at hk; exact Nat.lt_irrefl _ hk)]
  rw [key l (H.add c) H.nx (by rw [nx_add, K.toNat_succ]; omega)]
  congr 1
  show Heap.mk _ ((H.t.set H.nx (some c)).set H.nx (some b)) = _
  rw [Tr.set_set]; rfl
theorem setC_ext {α : Type} (H : Heap) (l : List Blk) (i : Nat) (b : Blk) (c : Heap → α) (h : i < l.length) : (H.ext l).setC (H.key i) b c = c (H.ext (l.set i b)) := by
 rw [setC_eq, set_ext_key l H i b h]
theorem set_ext_old : ∀ (l : List Blk) (H : Heap) (k : K) (b : Blk), k.toNat < H.nx.toNat → (H.ext l).set k b = (H.set k b).ext l
 | [], _, _, _, _ => rfl
 | d :: l, H, k, b, hk => by
  show ((H.add d).ext l).set k b = ((H.set k b).add d).ext l
  rw [set_ext_old l (H.add d) k b (by rw [nx_add, K.toNat_succ]; omega), set_add _ _ _ _ (fun e => by rw [e] at hk; exact Nat.lt_irrefl _ hk)]
theorem setC_old {α : Type} (H : Heap) (l : List Blk) (k : K) (b : Blk) (c : Heap → α) (h : k.toNat < H.nx.toNat) : (H.ext l).setC k b c = c ((H.set k b).ext l) := by
 rw [setC_eq, set_ext_old l H k b h]
theorem set_set (H : Heap) (k : K) (b c : Blk) : (H.set k b).set k c = H.set k c := by
 show Heap.mk H.nx ((H.t.set k (some b)).set k (some c)) = Heap.mk H.nx (H.t.set k (some c))
 rw [Tr.set_set]
theorem key_set (H : Heap) (k : K) (b : Blk) (i : Nat) : (H.set k b).key i = H.key i := rfl
theorem nx_set' (H : Heap) (k : K) (b : Blk) : (H.set k b).nx = H.nx := rfl
end Heap
mutual
def AV.ren (ρ : K → K) : AV → AV
 | .ptr k o => .ptr (ρ k) o
 | .slice k off len esz ex cap => .slice (ρ k) off len esz ex cap
 | .fn f a c => .fn f (AV.rens ρ a) (AV.rens ρ c)
 | .iface t v => .iface t (AV.ren ρ v)
 | .agg l => .agg (AV.rens ρ l)
 | .tup l => .tup (AV.rens ρ l)
 | .map k => .map (ρ k)
 | .bool b => .bool b
 | .int k n => .int k n
 | .str l => .str l
 | .nilp => .nilp
 | .nils => .nils
 | .nilf => .nilf
 | .nili => .nili
 | .nilm => .nilm
 | .typ t => .typ t
 | .any => .any
 | .geq n => .geq n
def AV.rens (ρ : K → K) : List AV → List AV
 | [] => []
 | v :: l => AV.ren ρ v :: AV.rens ρ l
end
def Blk.ren (ρ : K → K) : Blk → Blk
 | .dead => .dead
 | .row wr esz rows => .row wr esz (rows.map (AV.rens ρ))
 | .map es => .map (es.map fun p => (p.1.ren ρ, p.2.ren ρ))
theorem AV.rens_append (ρ : K → K) : ∀ a b : List AV, AV.rens ρ (a ++ b) = AV.rens ρ a ++ AV.rens ρ b
 | [], _ => by simp [AV.rens]
 | v :: a, b => by simp [AV.rens, AV.rens_append ρ a b]
theorem AV.rens_flatten (ρ : K → K) : ∀ l : List (List AV), AV.rens ρ l.flatten = (l.map (AV.rens ρ)).flatten
 | [] => by simp [AV.rens]
 | x :: l => by simp [AV.rens_append, AV.rens_flatten ρ l]
theorem AV.rens_length (ρ : K → K) : ∀ l : List AV, (AV.rens ρ l).length = l.length
 | [] => by simp [AV.rens]
 | x :: l => by simp [AV.rens, AV.rens_length ρ l]
mutual
theorem VRel.ren {ρ : K → K} : ∀ {v : AV} {v' : Value}, VRel P ψ (v.ren ρ) v' → VRel P (fun k => ψ (ρ k)) v v'
 | .ptr k o, _, h => by rw [AV.ren] at h; cases h with | ptr _ _ a e => exact .ptr k o a e
 | .slice k off len esz ex cap, _, h => by
  rw [AV.ren] at h
  cases h with
  | slice _ _ _ _ _ _ a c e hx hc hl hn => exact .slice k off len esz ex cap a c e hx hc hl hn
  | sliceE _ _ _ _ a x e => exact .sliceE k off esz ex a x e
 | .fn f a c, _, h => by rw [AV.ren] at h; cases h with | fn _ _ _ a' c' h1 h2 => exact .fn f a c a' c' (VRels.ren h1) (VRels.ren h2)
 | .iface t v, _, h => by rw [AV.ren] at h; cases h with | iface _ _ v' e => exact .iface t v v' (VRel.ren e)
 | .agg l, _, h => by rw [AV.ren] at h; cases h with | agg _ c e h1 => exact .agg l c (VRels.ren e) h1
 | .tup l, _, h => by rw [AV.ren] at h; cases h with | tup _ c e => exact .tup l c (VRels.ren e)
 | .map k, _, h => by rw [AV.ren] at h; cases h with | map _ a e => exact .map k a e
 | .bool b, _, h => by rw [AV.ren] at h; cases h; exact .bool b
 | .int k n, _, h => by rw [AV.ren] at h; cases h; exact .int k n
 | .str l, _, h => by rw [AV.ren] at h; cases h with | str _ s e => exact .str l s e
 | .nilp, _, h => by rw [AV.ren] at h; cases h; exact .nilp
 | .nils, _, h => by rw [AV.ren] at h; cases h; exact .nils
 | .nilf, _, h => by rw [AV.ren] at h; cases h; exact .nilf
 | .nili, _, h => by rw [AV.ren] at h; cases h; exact .nili
 | .nilm, _, h => by rw [AV.ren] at h; cases h; exact .nilm
 | .typ t, _, h => by rw [AV.ren] at h; cases h; exact .typ t
 | .any, _, h => by rw [AV.ren] at h; cases h with | any _ e => exact .any _ e
 | .geq n, _, h => by rw [AV.ren] at h; cases h with | geq _ m e => exact .geq n m e
theorem VRels.ren {ρ : K → K} : ∀ {l : List AV} {l' : List Value}, VRels P ψ (AV.rens ρ l) l' → VRels P (fun k => ψ (ρ k)) l l'
 | [], _, h => by rw [AV.rens] at h; cases h; exact .nil
 | v :: l, _, h => by rw [AV.rens] at h; cases h with | cons _ _ v' l' hv hl => exact .cons v l v' l' (VRel.ren hv) (VRels.ren hl)
end
mutual
theorem VRel.fix {ρ : K → K} (hρ : ∀ k a, φ k = some a → ρ k = k) : ∀ {v : AV} {v' : Value}, VRel P φ v v' → AV.ren ρ v = v
 | _, _, .bool b => by rw [AV.ren]
 | _, _, .int k n => by rw [AV.ren]
 | _, _, .str l s e => by rw [AV.ren]
 | _, _, .nilp => by rw [AV.ren]
 | _, _, .ptr k off a e => by rw [AV.ren, hρ k a e]
 | _, _, .nils => by rw [AV.ren]
 | _, _, .slice k off len esz ex cap a c e hx hc hl hn => by rw [AV.ren, hρ k a e]
 | _, _, .sliceE k off esz ex a x e => by rw [AV.ren, hρ k a e]
 | _, _, .fn f a b c d h1 h2 => by rw [AV.ren, VRels.fix hρ h1, VRels.fix hρ h2]
 | _, _, .nilf => by rw [AV.ren]
 | _, _, .iface t v v' e => by rw [AV.ren, VRel.fix hρ e]
 | _, _, .nili => by rw [AV.ren]
 | _, _, .agg l c e h1 => by rw [AV.ren, VRels.fix hρ e]
 | _, _, .tup l c e => by rw [AV.ren, VRels.fix hρ e]
 | _, _, .nilm => by rw [AV.ren]
 | _, _, .map k a e => by rw [AV.ren, hρ k a e]
 | _, _, .typ t => by rw [AV.ren]
 | _, _, .any v h => by rw [AV.ren]
 | _, _, .geq n m h => by rw [AV.ren]
theorem VRels.fix {ρ : K → K} (hρ : ∀ k a, φ k = some a → ρ k = k) : ∀ {l : List AV} {l' : List Value}, VRels P φ l l' → AV.rens ρ l = l
 | _, _, .nil => by rw [AV.rens]
 | _, _, .cons v l v' l' a b => by rw [AV.rens, VRel.fix hρ a, VRels.fix hρ b]
end
theorem ERel.ren {ρ : K → K} : ∀ {l : List (AV × AV)} {l' : List MapEntry}, ERel P ψ (l.map fun p => (p.1.ren ρ, p.2.ren ρ)) l' → ERel P (fun k => ψ (ρ k)) l l'
 | [], _, h => by cases h; exact .nil
 | (k, v) :: l, _, h => by cases h with | cons _ _ _ e l' hk hv hl => exact .cons k v l e l' hk.ren hv.ren (ERel.ren hl)
theorem ERel.fix {ρ : K → K} (hρ : ∀ k a, φ k = some a → ρ k = k) : ∀ {l : List (AV × AV)} {l' : List MapEntry}, ERel P φ l l' → (l.map fun p => (p.1.ren ρ, p.2.ren ρ)) = l
 | _, _, .nil => rfl
 | _, _, .cons k v l e l' hk hv hl => by rw [List.map_cons, ERel.fix hρ hl, hk.fix hρ, hv.fix hρ]
theorem BlkRel.ren {ρ : K → K} {at_ : At} : ∀ {b : Blk}, BlkRel P ψ w at_ (b.ren ρ) → BlkRel P (fun k => ψ (ρ k)) w at_ b
 | .dead, _ => trivial
 | .row wr esz rows, h => by
  have h : RowRel P ψ w at_ wr esz (rows.map (AV.rens ρ)) := h
  obtain ⟨hp, hl, pre, vs, post, e, lo, hi, h1, h2, h3, h4, h5, h6⟩ := h
  refine ⟨hp, fun r hr => ?_, pre, vs, post, e, lo, hi, h1, h2, h3, h4, ?_, h6⟩
  ·rw [← AV.rens_length ρ]; exact hl _ (List.mem_map_of_mem hr)
  ·rw [← AV.rens_flatten] at h5; exact h5.ren
 | .map es, h => by
  obtain ⟨c, clock, h1, h2⟩ := h
  exact ⟨c, clock, h1, h2.ren⟩
theorem BlkRel.fix {ρ : K → K} (hρ : ∀ k a, φ k = some a → ρ k = k) {at_ : At} : ∀ {b : Blk}, BlkRel P φ w at_ b → b.live → b.ren ρ = b
 | .dead, _, h => h.elim
 | .row wr esz rows, h, _ => by
  have h : RowRel P φ w at_ wr esz rows := h
  obtain ⟨hp, hl, pre, vs, post, e, lo, hi, h1, h2, h3, h4, h5, h6⟩ := h
  have := h5.fix hρ
  rw [AV.rens_flatten] at this
  show Blk.row wr esz (rows.map (AV.rens ρ)) = _
  congr 1
  have key : ∀ (l m : List (List AV)), (∀ r ∈ l, r.length = esz) → (∀ r ∈ m, r.length = esz) → l.length = m.length → l.flatten = m.flatten → l = m := by
   intro l
   induction l with
   | nil => intro m _ _ h _; cases m with | nil => rfl | cons _ _ => simp at h
   | cons x l ih =>
    intro m hl hm hlen hf
    cases m with
    | nil => simp at hlen
    | cons y m =>
     have e1 : x.length = y.length := by rw [hl x (by simp), hm y (by simp)]
     rw [List.flatten_cons, List.flatten_cons] at hf
     obtain ⟨h1, h2⟩ := List.append_inj hf e1
     rw [h1, ih m (fun r hr => hl r (by simp [hr])) (fun r hr => hm r (by simp [hr])) (by simpa using hlen) h2]
  exact key _ _ (fun r hr => by obtain ⟨s, hs, rfl⟩ := List.mem_map.1 hr; rw [AV.rens_length]; exact hl s hs) hl (by simp) this
 | .map es, h, _ => by
  obtain ⟨c, clock, h1, h2⟩ := h
  show Blk.map _ = _
  rw [h2.fix hρ]
theorem Blk.ren_live {ρ : K → K} {b : Blk} : (b.ren ρ).live ↔ b.live := by cases b <;> exact Iff.rfl
theorem Blk.ren_mayWrite {ρ : K → K} {b : Blk} : (b.ren ρ).mayWrite ↔ b.mayWrite := by cases b <;> exact Iff.rfl
noncomputable def rho (H : Heap) (top : Nat) (σ : List Nat) (k : K) : K := if k.toNat < H.nx.toNat then k else match σ[k.toNat - H.nx.toNat]? with | some j => H.key j | none => H.key top
theorem rho_old {H : Heap} {top : Nat} {σ : List Nat} {k : K} (h : k.toNat < H.nx.toNat) : rho H top σ k = k := if_pos h
theorem rho_key {H : Heap} {top : Nat} {σ : List Nat} {i j : Nat} (h : σ[i]? = some j) : rho H top σ (H.key i) = H.key j := by
 unfold rho; rw [Heap.toNat_key, if_neg (by omega), Nat.add_sub_cancel_left, h]
theorem WRel.wkB {φ0 : Phi} {H0 B : Heap} {w0 : World} (hnx : B.nx = H0.nx) (hok : B.ok)
  (hfix : ∀ (top : Nat) (σ : List Nat) k b, k.toNat < H0.nx.toNat → B.get k = some b → φ0 k ≠ none → b.live → b.ren (rho H0 top σ) = b) (hhid : ∀ k, k.toNat < H0.nx.toNat → φ0 k = none → B.get k = H0.get k)
  {l l2 : List Blk} (hw : WRel P ψ (B.ext l) u) (he : Ext φ0 H0 w0 ψ (B.ext l) u) (σ : List Nat)
  (hl : l2.length = σ.length) (hb : ∀ (i j : Nat) (b : Blk), l2[i]? = some b → σ[i]? = some j → b.live → l[j]? = some (b.ren (rho H0 l.length σ)))
  (hi : ∀ (i j : Nat) (b c : Blk) (n : Nat), i ≠ j → l2[i]? = some b → l2[j]? = some c → b.live → c.live → σ[i]? = some n → σ[j]? ≠ some n) :
  WRel P (fun k => ψ (rho H0 l.length σ k)) (B.ext l2) u ∧ Ext φ0 H0 w0 (fun k => ψ (rho H0 l.length σ k)) (B.ext l2) u := by
 have hkey : ∀ i, B.key i = H0.key i := fun i => by unfold Heap.key; rw [hnx]
 have htop : ψ (H0.key l.length) = none := by
  cases h : ψ (H0.key l.length) with
  | none => rfl
  | some a => have := hw.dom _ a h; rw [Heap.nx_ext, hkey] at this; exact absurd this (Nat.lt_irrefl _)
 have hnew : ∀ k a, H0.nx.toNat ≤ k.toNat → ψ (rho H0 l.length σ k) = some a → ∃ j, σ[k.toNat - H0.nx.toNat]? = some j ∧ rho H0 l.length σ k = H0.key j := by
  intro k a hk h
  unfold rho at h ⊢
  rw [if_neg (by omega)] at h ⊢
  split at h
  ·rename_i j hj; exact ⟨j, hj, rfl⟩
  ·rw [htop] at h; cases h
 have hold : ∀ k b a, k.toNat < H0.nx.toNat → B.get k = some b → ψ k = some a → b.live → b.ren (rho H0 l.length σ) = b := by
  intro k b a hk hg ha hlv
  refine hfix _ _ k b hk hg ?_ hlv
  rw [← he.phi k hk, ha]; simp
 have back : ∀ k b a, (B.ext l2).get k = some b → ψ (rho H0 l.length σ k) = some a → b.live → (B.ext l).get (rho H0 l.length σ k) = some (b.ren (rho H0 l.length σ)) := by
  intro k b a hg ha hlv
  by_cases hk : k.toNat < H0.nx.toNat
  ·rw [Heap.get_ext_lt _ _ _ (by rw [hnx]; exact hk)] at hg
   rw [rho_old hk] at ha ⊢
   rw [Heap.get_ext_lt _ _ _ (by rw [hnx]; exact hk), hg, hold k b a hk hg ha hlv]
  ·obtain ⟨j, hj, e⟩ := hnew k a (by omega) ha
   rw [Heap.get_ext, hnx] at hg
   split at hg
   ·have := hb _ j b hg hj hlv
    have hjl : j < l.length := (List.getElem?_eq_some_iff.1 this).1
    rw [e, ← hkey, Heap.get_ext_key _ _ _ hjl, this]
   ·exact absurd (hnx ▸ hok k b hg) hk
 have same : ∀ j k c d x y, j ≠ k → (B.ext l2).get j = some c → (B.ext l2).get k = some d → ψ (rho H0 l.length σ j) = some x → ψ (rho H0 l.length σ k) = some y → c.live → d.live → rho H0 l.length σ j ≠ rho H0 l.length σ k := by
  intro j k c d x y hjk hc hd hx hy lc ld e
  by_cases h1 : j.toNat < H0.nx.toNat
  ·rw [rho_old h1] at e
   by_cases h2 : k.toNat < H0.nx.toNat
   ·rw [rho_old h2] at e; exact hjk e
   ·obtain ⟨n, _, e2⟩ := hnew k y (by omega) hy
    rw [e2] at e
    have := congrArg K.toNat e; rw [Heap.toNat_key] at this; omega
  ·obtain ⟨n, hn, e1⟩ := hnew j x (by omega) hx
   by_cases h2 : k.toNat < H0.nx.toNat
   ·rw [rho_old h2, e1] at e
    have := congrArg K.toNat e; rw [Heap.toNat_key] at this; omega
   ·obtain ⟨m, hm, e2⟩ := hnew k y (by omega) hy
    rw [e1, e2] at e
    have := Heap.key_inj e
    subst this
    rw [Heap.get_ext, hnx] at hc hd
    split at hc
    ·split at hd
     ·refine hi _ _ c d n (fun e => hjk (K.toNat_inj (by omega))) hc hd lc ld hn hm
     ·exact h2 (hnx ▸ hok k d hd)
    ·exact h1 (hnx ▸ hok j c hc)
 have hrom : RomAt (fun k => ψ (rho H0 l.length σ k)) (B.ext l2) u := by
  intro g v hm
  obtain ⟨r1, r2⟩ := hw.rom g v hm
  refine ⟨r1, ?_⟩
  rintro ⟨k, c, a, hg, hm, ha, e⟩
  have hlv : c.live := by cases c <;> simp_all [Blk.mayWrite, Blk.live]
  exact r2 ⟨_, _, a, back k c a hg ha hlv, Blk.ren_mayWrite.2 hm, ha, e⟩
 refine ⟨⟨⟨?_, ?_, ?_, ?_, ?_⟩, hrom⟩, ⟨?_, ?_, he.size, he.keeps, ?_, ?_, he.os, he.tape, he.output⟩⟩
 ·intro k a h
  rw [Heap.nx_ext, Heap.toNat_key, hnx]
  by_cases hk : k.toNat < H0.nx.toNat
  ·omega
  ·obtain ⟨j, hj, _⟩ := hnew k a (by omega) h
   have := (List.getElem?_eq_some_iff.1 hj).1
   omega
 ·exact Heap.ok_ext hok l2
 ·intro k b a hg ha
  cases b with
  | dead => trivial
  | row wr esz rows => exact (hw.blk _ _ a (back k _ a hg ha trivial) ha).ren
  | map es => exact (hw.blk _ _ a (back k _ a hg ha trivial) ha).ren
 ·intro j k c d x y hjk hc hd hx hy lc ld hxy hm
  exact hw.inj _ _ _ _ x y (same j k c d x y hjk hc hd hx hy lc ld) (back j c x hc hx lc) (back k d y hd hy ld) hx hy (Blk.ren_live.2 lc) (Blk.ren_live.2 ld) hxy (Blk.ren_mayWrite.2 hm)
 ·intro k a h; exact hw.size _ a h
 ·intro k hk; show ψ (rho H0 l.length σ k) = _; rw [rho_old hk]; exact he.phi k hk
 ·rw [Heap.nx_ext, Heap.toNat_key, hnx]; omega
 ·intro k hk hn; rw [Heap.get_ext_lt _ _ _ (by rw [hnx]; exact hk)]; exact hhid k hk hn
 ·rintro b hb' ⟨k, c, a, hg, hm, ha, e⟩
  have hlv : c.live := by cases c <;> simp_all [Blk.mayWrite, Blk.live]
  exact he.own b hb' ⟨_, _, a, back k c a hg ha hlv, Blk.ren_mayWrite.2 hm, ha, e⟩
theorem WRel.old_fix {φ0 : Phi} {H0 : Heap} {w0 : World} (h0 : WRel P φ0 H0 w0) (top : Nat) (σ : List Nat) (k : K) (b : Blk) (hg : H0.get k = some b) (hn : φ0 k ≠ none) (hl : b.live) : b.ren (rho H0 top σ) = b := by
 cases h : φ0 k with
 | none => exact absurd h hn
 | some a => exact (h0.blk k b a hg h).fix (fun j x hj => rho_old (h0.dom j x hj)) hl
theorem WRel.wk {φ0 : Phi} {H0 : Heap} {w0 : World} (h0 : WRel P φ0 H0 w0) {l l2 : List Blk} (hw : WRel P ψ (H0.ext l) u) (he : Ext φ0 H0 w0 ψ (H0.ext l) u) (σ : List Nat)
  (hl : l2.length = σ.length) (hb : ∀ (i j : Nat) (b : Blk), l2[i]? = some b → σ[i]? = some j → b.live → l[j]? = some (b.ren (rho H0 l.length σ)))
  (hi : ∀ (i j : Nat) (b c : Blk) (n : Nat), i ≠ j → l2[i]? = some b → l2[j]? = some c → b.live → c.live → σ[i]? = some n → σ[j]? ≠ some n) :
  WRel P (fun k => ψ (rho H0 l.length σ k)) (H0.ext l2) u ∧ Ext φ0 H0 w0 (fun k => ψ (rho H0 l.length σ k)) (H0.ext l2) u :=
 WRel.wkB rfl h0.top (fun top σ k b _ hg hn hl => h0.old_fix top σ k b hg hn hl) (fun _ _ _ => rfl) hw he σ hl hb hi
noncomputable def trOf (l : List (K × AV)) : Tr AV := l.foldr (fun p t => t.set p.1 (some p.2)) .lf
theorem get_trOf : ∀ (l : List (K × AV)) (k : K) (v : AV), (trOf l).get k = some v → (k, v) ∈ l
 | [], k, v, h => by rw [show trOf [] = .lf from rfl, Tr.get_lf] at h; cases h
 | p :: l, k, v, h => by
  have h : ((trOf l).set p.1 (some p.2)).get k = some v := h
  rw [Tr.get_set] at h
  split at h
  ·rename_i e; cases h; subst e; simp
  ·have := get_trOf l k v h; simp [this]
structure Wk (H : Heap) (T : Tr AV) (l : List Blk) (ts : List (K × AV)) (l2 : List Blk) (σ : List Nat) : Prop where
 len : l2.length = σ.length
 slots : ∀ p ∈ ts, T.get p.1 = some (p.2.ren (rho H l.length σ))
 blks : ∀ p ∈ l2.zip σ, p.1.live → l[p.2]? = some (p.1.ren (rho H l.length σ))
 inj : σ.Nodup
theorem nodup_get {σ : List Nat} (h : σ.Nodup) {i j n : Nat} (hij : i ≠ j) (hi : σ[i]? = some n) : σ[j]? ≠ some n := by
 intro hj
 exact hij ((List.getElem?_inj (List.getElem?_eq_some_iff.1 hi).1 h).1 (hi.trans hj.symm))
theorem zip_get {l2 : List Blk} {σ : List Nat} {p : Blk × Nat → Prop} (h : ∀ q ∈ l2.zip σ, p q) {i j : Nat} {b : Blk} (hb : l2[i]? = some b) (hj : σ[i]? = some j) : p (b, j) := by
 refine h _ (List.mem_iff_getElem?.2 ⟨i, ?_⟩)
 rw [List.getElem?_zip_eq_some]
 exact ⟨hb, hj⟩
theorem At2.wk {φ0 : Phi} {H0 : Heap} {w0 : World} (h0 : WRel P φ0 H0 w0) {N : Nat} {l l2 : List Blk} {ts : List (K × AV)} {σ : List Nat} (hk : Wk H0 T l ts l2 σ) (h : At2 P φ0 H0 w0 N T (H0.ext l) a u) :
  At2 P φ0 H0 w0 N (trOf ts) (H0.ext l2) a u := by
 obtain ⟨hd, ψ, ht, hw, he⟩ := h
 obtain ⟨hw2, he2⟩ := WRel.wk h0 hw he σ hk.len (fun i j b hb hj hl => zip_get hk.blks hb hj hl) fun i j b c n hij _ _ _ _ hi => nodup_get hk.inj hij hi
 refine ⟨hd, _, ⟨ht.size, fun t v hv => ?_⟩, hw2, he2⟩
 have := hk.slots _ (get_trOf ts _ v hv)
 obtain ⟨v', h1, h2⟩ := ht.get t _ this
 exact ⟨v', h1, h2.ren⟩
theorem Tri.wk {N : Nat} {H0 : Heap} {c : Code} {Q : Ex → Tr AV → Heap → Prop} {l l2 : List Blk} {ts : List (K × AV)} {σ : List Nat} (hk : Wk H0 T l ts l2 σ) (h : Tri P N H0 c (trOf ts) (H0.ext l2) Q) : Tri P N H0 c T (H0.ext l) Q :=
 fun φ0 w0 a u h0 ha => h φ0 w0 a u h0 (ha.wk h0 hk)
def Kept (H0 : Heap) (Q : Ex → Tr AV → Heap → Prop) : Ex → Tr AV → Heap → Prop := fun e T G => Q e T G ∨ ∃ l ts l2 σ, G = H0.ext l ∧ Wk H0 T l ts l2 σ ∧ Q e (trOf ts) (H0.ext l2)
theorem Tri.kept {N : Nat} {H0 : Heap} {c : Code} {Q : Ex → Tr AV → Heap → Prop} (h : Tri P N H0 c T H (Kept H0 Q)) : Tri P N H0 c T H Q := by
 intro φ0 w0 a u h0 ha
 refine wp_mono (h φ0 w0 a u h0 ha) ?_
 rintro x a1 u1 ⟨e, T1, G, q | ⟨l, ts, l2, σ, rfl, hk, q⟩, hx, h1⟩
 ·exact ⟨e, T1, G, q, hx, h1⟩
 ·exact ⟨e, _, _, q, hx, h1.wk h0 hk⟩
theorem FnOk.wk {f : FuncId} {args : List AV} {Q R : AV → Heap → Prop} (h : FnOk P f args H Q)
  (hq : ∀ v G, Q v G → ∃ l l2 σ v2, G = H.ext l ∧ v = AV.ren (rho H l.length σ) v2 ∧ l2.length = σ.length ∧ σ.Nodup ∧ (∀ p ∈ l2.zip σ, p.1.live → l[p.2]? = some (p.1.ren (rho H l.length σ))) ∧ R v2 (H.ext l2)) : FnOk P f args H R := by
 intro φ w args' ha hw
 refine (h φ w args' ha hw).mono ?_
 rintro e u ⟨v, G, q, ψ, v', he, hv, hw1, he1⟩
 obtain ⟨l, l2, σ, v2, rfl, rfl, hl, hn, hb, hr⟩ := hq v G q
 obtain ⟨hw2, he2⟩ := WRel.wk hw hw1 he1 σ hl (fun i j b h1 h2 h3 => zip_get hb h1 h2 h3) fun i j b c n hij _ _ _ _ hi => nodup_get hn hij hi
 exact ⟨v2, _, hr, _, v', he, hv.ren, hw2, he2⟩
theorem FnOk.assume {f : FuncId} {args : List AV} {Q : AV → Heap → Prop} (h : H.ok → FnOk P f args H Q) : FnOk P f args H Q :=
 fun φ w args' ha hw => h hw.top φ w args' ha hw
end Go.Ev
namespace Go.Ev
variable {P : Program} {φ ψ : Phi} {H : Heap} {w u : World} {T : Tr AV} {a : Act}
inductive CC where
 | skip
 | ret
 | exit (n : Nat)
 | region (l : List Stp)
 | regionD (l : List Stp)
 | seq (x y : CC)
 | cond (c : X) (x y : CC)
 | block (id : Nat) (x : CC)
 | loop (x : CC)
noncomputable def comp (P : Program) (N : Nat) : Code → Option CC
 | .skip => some .skip
 | .ret => some .ret
 | .exit n => some (.exit n)
 | .region id ops draw => bif' (codeOk N (.region id ops draw)) (bif' draw (bif' (P.follows .mixedOrders) ((planD P ops).map .regionD) none) ((planL P ops ops.toList).map .region)) none
 | .seq x y => (comp P N x).bind fun x => (comp P N y).map fun y => .seq x y
 | .cond o x y => (cX o).bind fun o => (comp P N x).bind fun x => (comp P N y).map fun y => .cond o x y
 | .block id x => (comp P N x).map fun x => .block id x
 | .loop x => (comp P N x).map fun x => .loop x
 | _ => none
def TriC (P : Program) (N : Nat) (H0 : Heap) (c : CC) (T : Tr AV) (H : Heap) (Q : Ex → Tr AV → Heap → Prop) : Prop := ∀ code, comp P N code = some c → Tri P N H0 code T H Q
def Stp.goD (_P : Program) (E : FuncId → List AV → Heap → RC) (eqv : AV → AV → Bool) : Stp → Tr AV → Heap → (Tr AV → Heap → Prop) → Prop
 | .mk g dst gd re, T, H, K => gdC T gd False
  (match g T H with
   | .fail => False
   | .val v G => putT T dst v fun T => reC eqv T G re False (K T G)
   | .call f args => match E f args H with | .fail => False | .ok v G => putT T dst v fun T => reC eqv T G re False (K T G))
  (putT T dst (.tup []) fun T => K T H)
def Stp.goesD (P : Program) (E : FuncId → List AV → Heap → RC) (eqv : AV → AV → Bool) : List Stp → Tr AV → Heap → (Tr AV → Heap → Prop) → Prop
 | [], T, H, K => K T H
 | s :: l, T, H, K => s.goD P E eqv T H fun T H => Stp.goesD P E eqv l T H K
theorem goesD_steps {E : FuncId → List AV → Heap → RC} {eqv : AV → AV → Bool} {K : Tr AV → Heap → Prop} : ∀ (l : List Stp) (T : Tr AV) (H : Heap), Stp.goesD P E eqv l T H K → ∃ T' H', stepsR eqv E l T H = some (T', H') ∧ K T' H'
 | [], T, H, h => ⟨T, H, rfl, h⟩
 | .mk g dst gd re :: l, T, H, h => by
  have h : gdC T gd False
   (match g T H with
    | .fail => False
    | .val v G => putT T dst v fun T => reC eqv T G re False (Stp.goesD P E eqv l T G K)
    | .call f args => match E f args H with | .fail => False | .ok v G => putT T dst v fun T => reC eqv T G re False (Stp.goesD P E eqv l T G K))
   (putT T dst (.tup []) fun T => Stp.goesD P E eqv l T H K) := h
  have hrw : stepR eqv E (.mk g dst gd re) T H = gdC T gd none
   (R1.rec (motive := fun _ => Option (Tr AV × Heap)) none (fun v G => putT T dst v fun T => reC eqv T G re none (some (T, G))) (fun fn args => RC.rec (motive := fun _ => Option (Tr AV × Heap)) none (fun v G => putT T dst v fun T => reC eqv T G re none (some (T, G))) (E fn args H)) (g T H))
   (putT T dst (.tup []) fun T => some (T, H)) := rfl
  have key : ∀ (v : AV) (G : Heap), putT T dst v (fun T => reC eqv T G re False (Stp.goesD P E eqv l T G K)) → ∃ T1 G1, putT T dst v (fun T => reC eqv T G re none (some (T, G))) = some (T1, G1) ∧ Stp.goesD P E eqv l T1 G1 K := by
   intro v G hk
   obtain ⟨T1, hp, e1⟩ := putT_sel T dst v
   rw [e1] at hk
   rcases reC_sel eqv T1 G re with e | ⟨_, e⟩
   ·rw [e] at hk; exact hk.elim
   ·rw [e] at hk; exact ⟨T1, G, by rw [e1, e], hk⟩
  suffices hs : ∃ T1 G1, stepR eqv E (.mk g dst gd re) T H = some (T1, G1) ∧ Stp.goesD P E eqv l T1 G1 K by
   obtain ⟨T1, G1, e, hk⟩ := hs
   obtain ⟨T2, G2, e2, hk2⟩ := goesD_steps l T1 G1 hk
   exact ⟨T2, G2, by rw [stepsR_cons, e]; exact e2, hk2⟩
  rw [hrw]
  rcases gdC_sel T gd with e | e | e <;> rw [e] at h ⊢
  ·exact h.elim
  ·cases hg : g T H with
   | fail => rw [hg] at h; exact h.elim
   | val v G => rw [hg] at h; exact key v G h
   | call fn args =>
    rw [hg] at h
    have h : (match E fn args H with | .fail => False | .ok v G => putT T dst v fun T => reC eqv T G re False (Stp.goesD P E eqv l T G K)) := h
    cases hE : E fn args H with
    | fail => rw [hE] at h; exact h.elim
    | ok v G =>
     rw [hE] at h
     obtain ⟨T1, G1, e1, hk⟩ := key v G h
     refine ⟨T1, G1, ?_, hk⟩
     rw [← e1]
     show (RC.rec (motive := fun _ => Option (Tr AV × Heap)) none (fun v G => putT T dst v fun T => reC eqv T G re none (some (T, G))) (E fn args H) : Option (Tr AV × Heap)) = _
     rw [hE]
  ·obtain ⟨T1, hp, e1⟩ := putT_sel T dst (.tup [])
   rw [e1] at h
   exact ⟨T1, H, by rw [e1], h⟩
section
variable {N : Nat} {H0 : Heap} {x y : CC} {Q R : Ex → Tr AV → Heap → Prop}
theorem TriC.mono {c : CC} (h : TriC P N H0 c T H Q) (hq : ∀ e T H, Q e T H → R e T H) : TriC P N H0 c T H R := fun code hc => (h code hc).mono hq
theorem comp_inv {code : Code} {c : CC} (h : comp P N code = some c) : match c with
  | .skip => code = .skip
  | .ret => code = .ret
  | .exit n => code = .exit n
  | .region l => ∃ id ops, code = .region id ops false ∧ codeOk N (.region id ops false) = true ∧ planL P ops ops.toList = some l
  | .regionD l => ∃ id ops, code = .region id ops true ∧ codeOk N (.region id ops true) = true ∧ P.follows .mixedOrders = true ∧ planD P ops = some l
  | .seq x y => ∃ a b, code = .seq a b ∧ comp P N a = some x ∧ comp P N b = some y
  | .cond o x y => ∃ q a b, code = .cond q a b ∧ cX q = some o ∧ comp P N a = some x ∧ comp P N b = some y
  | .block id x => ∃ a, code = .block id a ∧ comp P N a = some x
  | .loop x => ∃ a, code = .loop a ∧ comp P N a = some x := by
 cases code with
 | skip => cases h; rfl
 | ret => cases h; rfl
 | exit n => cases h; rfl
 | region id ops draw =>
  simp only [comp] at h
  rw [bif_eq] at h
  split at h
  ·rename_i hok
   cases draw
   ·obtain ⟨l, hl, rfl⟩ := map_some h
    exact ⟨id, ops, rfl, hok, hl⟩
   ·rw [bif_true, bif_eq] at h
    split at h
    ·rename_i hm
     obtain ⟨l, hl, rfl⟩ := map_some h
     exact ⟨id, ops, rfl, hok, hm, hl⟩
    ·cases h
  ·cases h
 | seq a b =>
  simp only [comp] at h
  obtain ⟨x, hx, h⟩ := bind_some h
  obtain ⟨y, hy, rfl⟩ := map_some h
  exact ⟨a, b, rfl, hx, hy⟩
 | cond q a b =>
  simp only [comp] at h
  obtain ⟨o, ho, h⟩ := bind_some h
  obtain ⟨x, hx, h⟩ := bind_some h
  obtain ⟨y, hy, rfl⟩ := map_some h
  exact ⟨q, a, b, rfl, ho, hx, hy⟩
 | block id a =>
  simp only [comp] at h
  obtain ⟨x, hx, rfl⟩ := map_some h
  exact ⟨a, rfl, hx⟩
 | loop a =>
  simp only [comp] at h
  obtain ⟨x, hx, rfl⟩ := map_some h
  exact ⟨a, rfl, hx⟩
 | rangeFunc => cases h
 | scope => cases h
 | label => cases h
 | goto => cases h
 | refuse => cases h
theorem TriC.skip (h : Q .norm T H) : TriC P N H0 .skip T H Q := fun code hc => by have e : code = .skip := comp_inv hc; rw [e]; exact Tri.skip h
theorem TriC.ret (h : Q .ret T H) : TriC P N H0 .ret T H Q := fun code hc => by have e : code = .ret := comp_inv hc; rw [e]; exact Tri.ret h
theorem TriC.exit {id : Nat} (h : Q (.exit id) T H) : TriC P N H0 (.exit id) T H Q := fun code hc => by have e : code = .exit id := comp_inv hc; rw [e]; exact Tri.exit h
theorem TriC.seq (h : TriC P N H0 x T H (behind (fun T H => TriC P N H0 y T H Q) Q)) : TriC P N H0 (.seq x y) T H Q := fun _ hc => by
 obtain ⟨a, b, rfl, ha, hb⟩ := comp_inv hc
 refine Tri.seq ((h a ha).mono fun e T H q => ?_)
 cases e with
 | norm => exact q b hb
 | exit n => exact q
 | ret => exact q
theorem TriC.cond {o : X} {b : Bool} (hb : evX T o = some (.bool b)) (ht : b = true → TriC P N H0 x T H Q) (hf : b = false → TriC P N H0 y T H Q) : TriC P N H0 (.cond o x y) T H Q := fun _ hc => by
 obtain ⟨q, a, c, rfl, ho, ha, hcc⟩ := comp_inv hc
 exact Tri.cond (b := b) (fun z hz => by rw [ho] at hz; cases hz; exact hb) (by rw [ho]; rfl) (fun h => ht h a ha) (fun h => hf h c hcc)
theorem TriC.condT {o : X} (hb : evX T o = some (.bool true)) (ht : TriC P N H0 x T H Q) : TriC P N H0 (.cond o x y) T H Q := .cond hb (fun _ => ht) (fun h => by cases h)
theorem TriC.condF {o : X} (hb : evX T o = some (.bool false)) (hf : TriC P N H0 y T H Q) : TriC P N H0 (.cond o x y) T H Q := .cond hb (fun h => by cases h) (fun _ => hf)
theorem TriC.block {id : Nat} (h : TriC P N H0 x T H (outOf id Q)) : TriC P N H0 (.block id x) T H Q := fun _ hc => by
 obtain ⟨a, rfl, ha⟩ := comp_inv hc
 exact Tri.block (h a ha)
theorem TriC.loop (I : Nat → Tr AV → Heap → Prop) (h : ∀ m T H, I m T H → TriC P N H0 x T H (behind (fun T H => ∃ m', m' < m ∧ I m' T H) Q)) {m : Nat} (hi : I m T H) : TriC P N H0 (.loop x) T H Q := fun _ hc => by
 obtain ⟨a, rfl, ha⟩ := comp_inv hc
 exact Tri.loop I (fun m T H hi => h m T H hi a ha) hi
theorem TriC.region {l : List Stp} (h : Stp.goes P l T H fun T H => Q .norm T H) : TriC P N H0 (.region l) T H Q := fun _ hc => by
 obtain ⟨id, ops, rfl, hok, hp⟩ := comp_inv hc
 exact Tri.region hok hp h
theorem TriC.regionD {l : List Stp} {E : FuncId → List AV → Heap → RC} (hE : Good P E) {eqv : AV → AV → Bool} (heq : ∀ a b, eqv a b = true → a = b) (h : Stp.goesD P E eqv l T H fun T H => Q .norm T H) : TriC P N H0 (.regionD l) T H Q := fun _ hc => by
 obtain ⟨id, ops, rfl, hok, hm, hp⟩ := comp_inv hc
 obtain ⟨T1, H1, e, hq⟩ := goesD_steps l T H h
 exact Tri.regionD hok hm hp hE heq e hq
theorem TriC.wk {c : CC} {l l2 : List Blk} {ts : List (K × AV)} {σ : List Nat} (hk : Wk H0 T l ts l2 σ) (h : TriC P N H0 c (trOf ts) (H0.ext l2) Q) : TriC P N H0 c T (H0.ext l) Q := fun code hc => (h code hc).wk hk
theorem TriC.kept {c : CC} (h : TriC P N H0 c T H (Kept H0 Q)) : TriC P N H0 c T H Q := fun code hc => (h code hc).kept
end
noncomputable def E0 : FuncId → List AV → Heap → RC := fun _ _ _ => .fail
theorem good_E0 : Good P E0 := fun _ _ _ _ _ h => by cases h
noncomputable def withE (E : FuncId → List AV → Heap → RC) (f : FuncId) (args : List AV) (H : Heap) (v : AV) (G : Heap) : FuncId → List AV → Heap → RC :=
 fun f' args' H' => open Classical in if f' = f ∧ args' = args ∧ H' = H then .ok v G else E f' args' H'
theorem good_withE {E : FuncId → List AV → Heap → RC} (hE : Good P E) {f : FuncId} {args : List AV} {H : Heap} {v : AV} {G : Heap} (h : FnOk P f args H fun v' G' => v' = v ∧ G' = G) : Good P (withE E f args H v G) := by
 intro f' args' H' v' G' he
 unfold withE at he
 split at he
 ·rename_i hc
  obtain ⟨rfl, rfl, rfl⟩ := hc
  cases he
  intro φ w a ha hw
  exact h.one φ w a ha hw
 ·exact hE _ _ _ _ _ he
noncomputable def eqvC (a b : AV) : Bool := open Classical in decide (a = b)
theorem eqvC_eq (a b : AV) (h : eqvC a b = true) : a = b := by unfold eqvC at h; exact @of_decide_eq_true _ (Classical.propDecidable _) h
theorem eqvC_refl (a : AV) : eqvC a a = true := by unfold eqvC; exact @decide_eq_true _ (Classical.propDecidable _) rfl
def condP (o : Option AV) (p q : Prop) : Prop := match o with
 | some (.bool true) => p
 | some (.bool false) => q
 | _ => False
noncomputable def wpc (P : Program) (E : FuncId → List AV → Heap → RC) (N : Nat) (H0 : Heap) : CC → Tr AV → Heap → (Ex → Tr AV → Heap → Prop) → Prop
 | .skip, T, H, Q => Q .norm T H
 | .ret, T, H, Q => Q .ret T H
 | .exit n, T, H, Q => Q (.exit n) T H
 | .region l, T, H, Q => Stp.goes P l T H fun T H => Q .norm T H
 | .regionD l, T, H, Q => Stp.goesD P E eqvC l T H fun T H => Q .norm T H
 | .seq x y, T, H, Q => wpc P E N H0 x T H (behind (fun T H => wpc P E N H0 y T H Q) Q)
 | .cond c x y, T, H, Q => condP (evX T c) (wpc P E N H0 x T H Q) (wpc P E N H0 y T H Q)
 | .block id x, T, H, Q => wpc P E N H0 x T H (outOf id Q)
 | .loop x, T, H, Q => TriC P N H0 (.loop x) T H Q
theorem wpc_ok {E : FuncId → List AV → Heap → RC} (hE : Good P E) {N : Nat} {H0 : Heap} : ∀ (c : CC) (T : Tr AV) (H : Heap) (Q : Ex → Tr AV → Heap → Prop), wpc P E N H0 c T H Q → TriC P N H0 c T H Q
 | .skip, T, H, Q, h => TriC.skip h
 | .ret, T, H, Q, h => TriC.ret h
 | .exit n, T, H, Q, h => TriC.exit h
 | .region l, T, H, Q, h => TriC.region h
 | .regionD l, T, H, Q, h => TriC.regionD hE eqvC_eq h
 | .seq x y, T, H, Q, h => TriC.seq ((wpc_ok hE x T H _ h).mono fun e T H q => by
   cases e with
   | norm => exact wpc_ok hE y T H Q q
   | exit n => exact q
   | ret => exact q)
 | .cond c x y, T, H, Q, h => by
   have h : condP (evX T c) (wpc P E N H0 x T H Q) (wpc P E N H0 y T H Q) := h
   unfold condP at h
   split at h
   ·rename_i he; exact TriC.condT he (wpc_ok hE x T H Q h)
   ·rename_i he; exact TriC.condF he (wpc_ok hE y T H Q h)
   ·exact h.elim
 | .block id x, T, H, Q, h => TriC.block (wpc_ok hE x T H _ h)
 | .loop x, T, H, Q, h => h
theorem gdC_mono {T : Tr AV} {gd : Gd} {p q r s : Prop} (h1 : p → r) (h2 : q → s) (h : gdC T gd False p q) : gdC T gd False r s := by
 rcases gdC_sel T gd with e | e | e <;> rw [e] at h ⊢
 ·exact h
 ·exact h1 h
 ·exact h2 h
theorem goes_mono : ∀ (l : List Stp) (T : Tr AV) (H : Heap) (R R' : Tr AV → Heap → Prop), (∀ T H, R T H → R' T H) → Stp.goes P l T H R → Stp.goes P l T H R'
 | [], T, H, R, R', hr, h => hr _ _ h
 | .mk g dst gd re :: l, T, H, R, R', hr, h => by
  have h : gdC T gd False ((g T H).go P H fun v G => putT T dst v fun T => Stp.goes P l T G R) (putT T dst (.tup []) fun T => Stp.goes P l T H R) := h
  have hp : ∀ (v : AV) (G : Heap), (putT T dst v fun T => Stp.goes P l T G R) → putT T dst v fun T => Stp.goes P l T G R' := by
   intro v G h
   obtain ⟨T1, _, e1⟩ := putT_sel T dst v
   rw [e1] at h ⊢
   exact goes_mono l T1 G R R' hr h
  refine gdC_mono ?_ (hp _ _) h
  intro h
  cases hg : g T H with
  | fail => rw [hg] at h; exact h
  | val v G => rw [hg] at h; exact hp v G h
  | call f args => rw [hg] at h; exact FnOk.mono h fun v G h => hp v G h
theorem reC_mono {eqv : AV → AV → Bool} {T : Tr AV} {H : Heap} {re : List Rk} {p q : Prop} (h1 : p → q) (h : reC eqv T H re False p) : reC eqv T H re False q := by
 rcases reC_sel eqv T H re with e | ⟨_, e⟩ <;> rw [e] at h ⊢
 ·exact h
 ·exact h1 h
theorem goesD_mono {E : FuncId → List AV → Heap → RC} {eqv : AV → AV → Bool} : ∀ (l : List Stp) (T : Tr AV) (H : Heap) (R R' : Tr AV → Heap → Prop), (∀ T H, R T H → R' T H) → Stp.goesD P E eqv l T H R → Stp.goesD P E eqv l T H R'
 | [], T, H, R, R', hr, h => hr _ _ h
 | .mk g dst gd re :: l, T, H, R, R', hr, h => by
  have h : gdC T gd False
   (match g T H with
    | .fail => False
    | .val v G => putT T dst v fun T => reC eqv T G re False (Stp.goesD P E eqv l T G R)
    | .call f args => match E f args H with | .fail => False | .ok v G => putT T dst v fun T => reC eqv T G re False (Stp.goesD P E eqv l T G R))
   (putT T dst (.tup []) fun T => Stp.goesD P E eqv l T H R) := h
  have hp : ∀ (v : AV) (G : Heap), (putT T dst v fun T => reC eqv T G re False (Stp.goesD P E eqv l T G R)) → putT T dst v fun T => reC eqv T G re False (Stp.goesD P E eqv l T G R') := by
   intro v G h
   obtain ⟨T1, _, e1⟩ := putT_sel T dst v
   rw [e1] at h ⊢
   exact reC_mono (goesD_mono l T1 G R R' hr) h
  refine gdC_mono ?_ ?_ h
  ·intro h
   cases hg : g T H with
   | fail => rw [hg] at h; exact h
   | val v G => rw [hg] at h; exact hp v G h
   | call f args =>
    rw [hg] at h
    have h : (match E f args H with | .fail => False | .ok v G => putT T dst v fun T => reC eqv T G re False (Stp.goesD P E eqv l T G R)) := h
    show (match E f args H with | .fail => False | .ok v G => putT T dst v fun T => reC eqv T G re False (Stp.goesD P E eqv l T G R'))
    cases hE : E f args H with
    | fail => rw [hE] at h; exact h
    | ok v G => rw [hE] at h; exact hp v G h
  ·intro h
   obtain ⟨T1, _, e1⟩ := putT_sel T dst (.tup [])
   rw [e1] at h ⊢
   exact goesD_mono l T1 H R R' hr h
theorem wpc_mono {E : FuncId → List AV → Heap → RC} {N : Nat} {H0 : Heap} : ∀ (c : CC) (T : Tr AV) (H : Heap) (Q R : Ex → Tr AV → Heap → Prop), (∀ e T H, Q e T H → R e T H) → wpc P E N H0 c T H Q → wpc P E N H0 c T H R
 | .skip, T, H, Q, R, hr, h => hr _ _ _ h
 | .ret, T, H, Q, R, hr, h => hr _ _ _ h
 | .exit n, T, H, Q, R, hr, h => hr _ _ _ h
 | .region l, T, H, Q, R, hr, h => goes_mono l T H _ _ (fun T H h => hr _ _ _ h) h
 | .regionD l, T, H, Q, R, hr, h => goesD_mono l T H _ _ (fun T H h => hr _ _ _ h) h
 | .seq x y, T, H, Q, R, hr, h => wpc_mono x T H _ _ (fun e T H q => by
   cases e with
   | norm => exact wpc_mono y T H Q R hr q
   | exit n => exact hr _ _ _ q
   | ret => exact hr _ _ _ q) h
 | .cond c x y, T, H, Q, R, hr, h => by
   have h : condP (evX T c) (wpc P E N H0 x T H Q) (wpc P E N H0 y T H Q) := h
   show condP (evX T c) (wpc P E N H0 x T H R) (wpc P E N H0 y T H R)
   unfold condP at h ⊢
   split at h
   ·exact wpc_mono x T H Q R hr h
   ·exact wpc_mono y T H Q R hr h
   ·exact h
 | .block id x, T, H, Q, R, hr, h => wpc_mono x T H _ _ (fun e T H q => by
   cases e with
   | norm => exact hr _ _ _ q
   | ret => exact hr _ _ _ q
   | exit n =>
    have q : (if n = id then Q .norm T H else Q (.exit n) T H) := q
    show (if n = id then R .norm T H else R (.exit n) T H)
    split at q
    ·rename_i e; rw [if_pos e]; exact hr _ _ _ q
    ·rename_i e; rw [if_neg e]; exact hr _ _ _ q) h
 | .loop x, T, H, Q, R, hr, h => TriC.mono h hr
def Ex.over : Ex → Prop
 | .exit _ => False
 | _ => True
theorem FnOk.of_comp {f : FuncId} {fn : Func} {c : CC} {N : Nat} {ks : List RK} {args : List AV} {Q : AV → Heap → Prop} (hf : P.funcs[f]? = some fn) (hN : fn.ntmps = N) (hc : (match fn.body with | some code => comp P N code | none => none) = some c)
  (hk : resKs P fn.results.toList = some ks) (h : TriC P N H c (argsC args .z .lf fun T => T) H fun e T' H' => e.over ∧ getsC T' H' ks False fun vs => Q (packC vs) H') : FnOk P f args H Q := by
 subst hN
 cases hb : fn.body with
 | none => rw [hb] at hc; cases hc
 | some code =>
  rw [hb] at hc
  refine .of_tri hf hb hk rfl ((h code hc).mono fun e T' H' ⟨h1, h2⟩ => ⟨?_, h2⟩)
  cases e <;> exact h1
inductive It where
 | reg (l : List Stp)
 | regD (l : List Stp)
 | code (c : CC)
 | inB (id : Nat)
noncomputable def postW (P : Program) (E : FuncId → List AV → Heap → RC) (N : Nat) (H0 : Heap) : List It → (Ex → Tr AV → Heap → Prop) → Ex → Tr AV → Heap → Prop
 | [], Q, e, T, H => Q e T H
 | .code c :: k, Q, .norm, T, H => wpc P E N H0 c T H (postW P E N H0 k Q)
 | .reg l :: k, Q, .norm, T, H => Stp.goes P l T H fun T H => postW P E N H0 k Q .norm T H
 | .regD l :: k, Q, .norm, T, H => Stp.goesD P E eqvC l T H fun T H => postW P E N H0 k Q .norm T H
 | .inB _ :: k, Q, .norm, T, H => postW P E N H0 k Q .norm T H
 | .inB id :: k, Q, .exit n, T, H => if n = id then postW P E N H0 k Q .norm T H else postW P E N H0 k Q (.exit n) T H
 | _ :: k, Q, e, T, H => postW P E N H0 k Q e T H
noncomputable def WW (P : Program) (E : FuncId → List AV → Heap → RC) (N : Nat) (H0 : Heap) (k : List It) (T : Tr AV) (H : Heap) (Q : Ex → Tr AV → Heap → Prop) : Prop := postW P E N H0 k Q .norm T H
noncomputable def WX (P : Program) (E : FuncId → List AV → Heap → RC) (N : Nat) (H0 : Heap) (n : Nat) (k : List It) (T : Tr AV) (H : Heap) (Q : Ex → Tr AV → Heap → Prop) : Prop := postW P E N H0 k Q (.exit n) T H
noncomputable def LL (P : Program) (E : FuncId → List AV → Heap → RC) (N : Nat) (H0 : Heap) (x : CC) (k : List It) (T : Tr AV) (H : Heap) (Q : Ex → Tr AV → Heap → Prop) : Prop := TriC P N H0 (.loop x) T H (postW P E N H0 k Q)
noncomputable def putD (T : Tr AV) (d : Option K) (v : AV) : Tr AV := putT T d v fun T => T
theorem putD_eq {β : Type} (T : Tr AV) (d : Option K) (v : AV) (c : Tr AV → β) : putT T d v c = c (putD T d v) := by
 cases d with
 | none => rfl
 | some k => show T.setC k (some v) c = c (T.setC k (some v) fun T => T); rw [Tr.setC_eq, Tr.setC_eq]
noncomputable def CL (P : Program) (E : FuncId → List AV → Heap → RC) (N : Nat) (H0 : Heap) (f : FuncId) (args : List AV) (d : Option K) (k : List It) (T : Tr AV) (H : Heap) (Q : Ex → Tr AV → Heap → Prop) : Prop :=
 FnOk P f args H fun v G => WW P E N H0 k (putD T d v) G Q
noncomputable def RW (P : Program) (E : FuncId → List AV → Heap → RC) (N : Nat) (H0 : Heap) (r : R1) (d : Option K) (k : List It) (T : Tr AV) (H : Heap) (Q : Ex → Tr AV → Heap → Prop) : Prop := match r with
 | .fail => False
 | .val v G => WW P E N H0 k (putD T d v) G Q
 | .call f args => CL P E N H0 f args d k T H Q
noncomputable def AW (P : Program) (E : FuncId → List AV → Heap → RC) (N : Nat) (H0 : Heap) (re : List Rk) (k : List It) (T : Tr AV) (H : Heap) (Q : Ex → Tr AV → Heap → Prop) : Prop := reC eqvC T H re False (WW P E N H0 k T H Q)
noncomputable def RD (P : Program) (E : FuncId → List AV → Heap → RC) (N : Nat) (H0 : Heap) (r : R1) (d : Option K) (re : List Rk) (k : List It) (T : Tr AV) (H : Heap) (Q : Ex → Tr AV → Heap → Prop) : Prop := match r with
 | .fail => False
 | .val v G => AW P E N H0 re k (putD T d v) G Q
 | .call f args => match E f args H with | .fail => False | .ok v G => AW P E N H0 re k (putD T d v) G Q
section
variable {E : FuncId → List AV → Heap → RC} {N : Nat} {H0 : Heap} {k : List It} {Q : Ex → Tr AV → Heap → Prop}
theorem WW_nil : WW P E N H0 [] T H Q = Q .norm T H := nrf rfl
theorem WW_inB (id : Nat) : WW P E N H0 (.inB id :: k) T H Q = WW P E N H0 k T H Q := nrf rfl
theorem WW_skip : WW P E N H0 (.code .skip :: k) T H Q = WW P E N H0 k T H Q := nrf rfl
theorem WW_exit (n : Nat) : WW P E N H0 (.code (.exit n) :: k) T H Q = WX P E N H0 n k T H Q := nrf rfl
theorem WW_region (l : List Stp) : WW P E N H0 (.code (.region l) :: k) T H Q = WW P E N H0 (.reg l :: k) T H Q := nrf rfl
theorem WW_regionD (l : List Stp) : WW P E N H0 (.code (.regionD l) :: k) T H Q = WW P E N H0 (.regD l :: k) T H Q := nrf rfl
theorem WW_loop (x : CC) : WW P E N H0 (.code (.loop x) :: k) T H Q = LL P E N H0 x k T H Q := nrf rfl
theorem WW_cond (c : X) (x y : CC) : WW P E N H0 (.code (.cond c x y) :: k) T H Q = condP (evX T c) (WW P E N H0 (.code x :: k) T H Q) (WW P E N H0 (.code y :: k) T H Q) := nrf rfl
theorem WW_seq (x y : CC) : WW P E N H0 (.code (.seq x y) :: k) T H Q = WW P E N H0 (.code x :: .code y :: k) T H Q := by
 show wpc P E N H0 x T H (behind (fun T H => wpc P E N H0 y T H (postW P E N H0 k Q)) (postW P E N H0 k Q)) = wpc P E N H0 x T H (postW P E N H0 (.code y :: k) Q)
 congr 1
 funext e T H
 cases e <;> rfl
theorem WW_block (id : Nat) (x : CC) : WW P E N H0 (.code (.block id x) :: k) T H Q = WW P E N H0 (.code x :: .inB id :: k) T H Q := by
 show wpc P E N H0 x T H (outOf id (postW P E N H0 k Q)) = wpc P E N H0 x T H (postW P E N H0 (.inB id :: k) Q)
 congr 1
 funext e T H
 cases e <;> rfl
theorem WX_nil (n : Nat) : WX P E N H0 n [] T H Q = Q (.exit n) T H := nrf rfl
theorem WX_inB (n id : Nat) : WX P E N H0 n (.inB id :: k) T H Q = if n = id then WW P E N H0 k T H Q else WX P E N H0 n k T H Q := nrf rfl
theorem WX_code (n : Nat) (c : CC) : WX P E N H0 n (.code c :: k) T H Q = WX P E N H0 n k T H Q := nrf rfl
theorem WX_reg (n : Nat) (l) : WX P E N H0 n (.reg l :: k) T H Q = WX P E N H0 n k T H Q := nrf rfl
theorem WX_regD (n : Nat) (l) : WX P E N H0 n (.regD l :: k) T H Q = WX P E N H0 n k T H Q := nrf rfl
theorem postW_ret : ∀ (k : List It), postW P E N H0 k Q .ret T H = Q .ret T H
 | [] => rfl
 | .code _ :: k => postW_ret k
 | .reg _ :: k => postW_ret k
 | .regD _ :: k => postW_ret k
 | .inB _ :: k => postW_ret k
theorem WW_ret : WW P E N H0 (.code .ret :: k) T H Q = Q .ret T H := postW_ret k
theorem WW_reg_nil : WW P E N H0 (.reg [] :: k) T H Q = WW P E N H0 k T H Q := nrf rfl
theorem WW_regD_nil : WW P E N H0 (.regD [] :: k) T H Q = WW P E N H0 k T H Q := nrf rfl
theorem WW_reg (g dst gd re l) : WW P E N H0 (.reg (.mk g dst gd re :: l) :: k) T H Q = gdC T gd False (RW P E N H0 (g T H) dst (.reg l :: k) T H Q) (WW P E N H0 (.reg l :: k) (putD T dst (.tup [])) H Q) := by
 show gdC T gd False ((g T H).go P H fun v G => putT T dst v fun T => Stp.goes P l T G fun T H => postW P E N H0 k Q .norm T H) (putT T dst (.tup []) fun T => Stp.goes P l T H fun T H => postW P E N H0 k Q .norm T H) = _
 rw [putD_eq]
 congr 1
 cases g T H with
 | fail => rfl
 | val v G => exact putD_eq T dst v fun T => WW P E N H0 (.reg l :: k) T G Q
 | call f args =>
  show FnOk P f args H (fun v G => putT T dst v fun T => Stp.goes P l T G fun T H => postW P E N H0 k Q .norm T H) = FnOk P f args H fun v G => WW P E N H0 (.reg l :: k) (putD T dst v) G Q
  congr 1
  funext v G
  exact putD_eq T dst v fun T => WW P E N H0 (.reg l :: k) T G Q
theorem WW_regD (g dst gd re l) : WW P E N H0 (.regD (.mk g dst gd re :: l) :: k) T H Q = gdC T gd False (RD P E N H0 (g T H) dst re (.regD l :: k) T H Q) (WW P E N H0 (.regD l :: k) (putD T dst (.tup [])) H Q) := by
 show gdC T gd False (match g T H with
   | .fail => False
   | .val v G => putT T dst v fun T => reC eqvC T G re False (Stp.goesD P E eqvC l T G fun T H => postW P E N H0 k Q .norm T H)
   | .call f args => match E f args H with | .fail => False | .ok v G => putT T dst v fun T => reC eqvC T G re False (Stp.goesD P E eqvC l T G fun T H => postW P E N H0 k Q .norm T H))
  (putT T dst (.tup []) fun T => Stp.goesD P E eqvC l T H fun T H => postW P E N H0 k Q .norm T H) = _
 rw [putD_eq]
 congr 1
 cases g T H with
 | fail => rfl
 | val v G => exact putD_eq T dst v fun T => AW P E N H0 re (.regD l :: k) T G Q
 | call f args =>
  show (match E f args H with | .fail => False | .ok v G => putT T dst v fun T => reC eqvC T G re False (Stp.goesD P E eqvC l T G fun T H => postW P E N H0 k Q .norm T H)) = (match E f args H with | .fail => False | .ok v G => AW P E N H0 re (.regD l :: k) (putD T dst v) G Q)
  cases E f args H with
  | fail => rfl
  | ok v G => exact putD_eq T dst v fun T => AW P E N H0 re (.regD l :: k) T G Q
theorem CL.of {f : FuncId} {args : List AV} {d : Option K} {R : AV → Heap → Prop} (h : FnOk P f args H R) (hr : ∀ v G, R v G → WW P E N H0 k (putD T d v) G Q) : CL P E N H0 f args d k T H Q := h.mono hr
theorem LL.of {x : CC} (hE : Good P E) (I : Nat → Tr AV → Heap → Prop) (h : ∀ m T H, I m T H → WW P E N H0 [.code x] T H (behind (fun T H => ∃ m', m' < m ∧ I m' T H) (postW P E N H0 k Q))) {m : Nat} (hi : I m T H) : LL P E N H0 x k T H Q :=
 TriC.loop I (fun m T H hi => wpc_ok hE x T H _ (h m T H hi)) hi
def Round (H0 : Heap) (I : Nat → Tr AV → Heap → Prop) (m : Nat) (T : Tr AV) (G : Heap) : Prop := ∃ l ts l2 σ, G = H0.ext l ∧ Wk H0 T l ts l2 σ ∧ ∃ m', m' < m ∧ I m' (trOf ts) (H0.ext l2)
theorem LL.ofR {x : CC} (hE : Good P E) (I : Nat → Tr AV → Heap → Prop) (h : ∀ m T H, I m T H → WW P E N H0 [.code x] T H (behind (Round H0 I m) (postW P E N H0 k Q))) {m : Nat} (hi : I m T H) : LL P E N H0 x k T H Q :=
 TriC.loop I (fun m T H hi => TriC.kept ((wpc_ok hE x T H _ (h m T H hi)).mono fun e T G q => by
  cases e with
  | norm => obtain ⟨l, ts, l2, σ, h1, h2, h3⟩ := q; exact .inr ⟨l, ts, l2, σ, h1, h2, h3⟩
  | exit n => exact .inl q
  | ret => exact .inl q)) hi
theorem LL.wk {x : CC} {l l2 : List Blk} {ts : List (K × AV)} {σ : List Nat} (hk : Wk H0 T l ts l2 σ) (h : LL P E N H0 x k (trOf ts) (H0.ext l2) Q) : LL P E N H0 x k T (H0.ext l) Q := TriC.wk hk h
end
def CCok (P : Program) (fn : Func) (N : Nat) (c : CC) : Prop := (match fn.body with | some code => comp P N code | none => none) = some c
theorem FnOk.of_WW {f : FuncId} {fn : Func} {c : CC} {N : Nat} {ks : List RK} {args : List AV} {Q : AV → Heap → Prop} (hf : P.funcs[f]? = some fn) (hN : fn.ntmps = N) (hc : (match fn.body with | some code => comp P N code | none => none) = some c)
  (hk : resKs P fn.results.toList = some ks) (E : FuncId → List AV → Heap → RC) (hE : Good P E) (h : WW P E N H [.code c] (argsC args .z .lf fun T => T) (H.ext []) fun e T' H' => e.over ∧ getsC T' H' ks False fun vs => Q (packC vs) H') : FnOk P f args H Q :=
 .of_comp hf hN hc hk (wpc_ok hE c _ _ _ h)
end Go.Ev
