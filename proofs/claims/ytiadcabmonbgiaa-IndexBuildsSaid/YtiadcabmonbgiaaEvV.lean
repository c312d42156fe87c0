/- What a statement makes of slots and memory, in every world and on every tape: rules. -/
import Derived.Test.YtiadcabmonbgiaaEvU
namespace Go.Ev
variable {P : Program} {φ : Phi} {H : Heap} {w u : World} {T : Tr AV} {a : Act}

theorem FnOk.mono {f : FuncId} {args : List AV} {Q R : AV → Heap → Prop} (h : FnOk P f args H Q) (hq : ∀ v G, Q v G → R v G) : FnOk P f args H R :=
  fun φ w args' ha hw => (h φ w args' ha hw).mono fun _ _ ⟨v, G, q, hr⟩ => ⟨v, G, hq v G q, hr⟩

/-- The slots and the memory, where a call that began at φ0, H0, w0 stands. -/
def Tri (P : Program) (N : Nat) (H0 : Heap) (c : Code) (T : Tr AV) (H : Heap) (Q : Ex → Tr AV → Heap → Prop) : Prop :=
  ∀ (φ0 : Phi) (w0 : World) (a : Act) (u : World), WRel P φ0 H0 w0 → At2 P φ0 H0 w0 N T H a u → c.wp P (fun x a' u' => ∃ e T' H', Q e T' H' ∧ x = exOf e ∧ At2 P φ0 H0 w0 N T' H' a' u') a u

section
variable {N : Nat} {H0 : Heap} {c x y : Code} {Q R : Ex → Tr AV → Heap → Prop}
theorem Tri.mono (h : Tri P N H0 c T H Q) (hq : ∀ e T H, Q e T H → R e T H) : Tri P N H0 c T H R :=
  fun φ0 w0 a u h0 ha => wp_mono (h φ0 w0 a u h0 ha) fun _ _ _ ⟨e, T', H', q, hr⟩ => ⟨e, T', H', hq _ _ _ q, hr⟩
theorem Tri.skip (h : Q .norm T H) : Tri P N H0 .skip T H Q := fun _ _ _ _ _ ha => wp_skip ⟨.norm, T, H, h, rfl, ha⟩
theorem Tri.ret (h : Q .ret T H) : Tri P N H0 .ret T H Q := fun _ _ _ _ _ ha => wp_ret ⟨.ret, T, H, h, rfl, ha⟩
theorem Tri.exit {id : Nat} (h : Q (.exit id) T H) : Tri P N H0 (.exit id) T H Q := fun _ _ _ _ _ ha => wp_exit ⟨.exit id, T, H, h, rfl, ha⟩

/-- what comes behind the first of two -/
def behind (K : Tr AV → Heap → Prop) (Q : Ex → Tr AV → Heap → Prop) : Ex → Tr AV → Heap → Prop
  | .norm, T, H => K T H
  | e, T, H => Q e T H
theorem Tri.seq (h : Tri P N H0 x T H (behind (fun T H => Tri P N H0 y T H Q) Q)) : Tri P N H0 (.seq x y) T H Q := by
  intro φ0 w0 a u h0 ha
  refine wp_seq (wp_mono (h φ0 w0 a u h0 ha) ?_)
  rintro _ a1 u1 ⟨e, T1, H1, q, rfl, h1⟩
  cases e with
  | norm => exact q φ0 w0 a1 u1 h0 h1
  | exit n => exact ⟨.exit n, T1, H1, q, rfl, h1⟩
  | ret => exact ⟨.ret, T1, H1, q, rfl, h1⟩

theorem Tri.cond {o : Operand} {b : Bool} (hb : ∀ x, cX o = some x → evX T x = some (.bool b)) (hx : (cX o).isSome) (ht : b = true → Tri P N H0 x T H Q) (hf : b = false → Tri P N H0 y T H Q) : Tri P N H0 (.cond o x y) T H Q := by
  intro φ0 w0 a u h0 ha
  obtain ⟨hd, ψ, htr, hw, he⟩ := ha
  cases hc : cX o with
  | none => rw [hc] at hx; cases hx
  | some z =>
    have hv := evX_sound (P := P) (φ := ψ) (a := a) (htr.at _) hc (hb z hc)
    generalize hy : a.eval o = v at hv
    cases hv
    refine wp_cond hy ?_
    cases b
    · exact hf rfl φ0 w0 a u h0 ⟨hd, ψ, htr, hw, he⟩
    · exact ht rfl φ0 w0 a u h0 ⟨hd, ψ, htr, hw, he⟩

/-- what comes behind a block -/
def outOf (id : Nat) (Q : Ex → Tr AV → Heap → Prop) : Ex → Tr AV → Heap → Prop
  | .exit n, T, H => if n = id then Q .norm T H else Q (.exit n) T H
  | e, T, H => Q e T H
theorem Tri.block {id : Nat} (h : Tri P N H0 x T H (outOf id Q)) : Tri P N H0 (.block id x) T H Q := by
  intro φ0 w0 a u h0 ha
  refine wp_block (wp_mono (h φ0 w0 a u h0 ha) ?_)
  rintro _ a1 u1 ⟨e, T1, H1, q, rfl, h1⟩
  cases e with
  | norm => exact ⟨.norm, T1, H1, q, rfl, h1⟩
  | ret => exact ⟨.ret, T1, H1, q, rfl, h1⟩
  | exit k =>
    show Exit.inBlock id _ (.exit k) a1 u1
    simp only [Exit.inBlock]
    unfold outOf at q
    simp only at q
    split at q
    · rename_i e
      rw [if_pos e]
      exact ⟨.norm, T1, H1, q, rfl, h1⟩
    · rename_i e
      rw [if_neg e]
      exact ⟨.exit k, T1, H1, q, rfl, h1⟩

/-- a loop: what holds at its head, so many rounds at most being left -/
theorem Tri.loop (I : Nat → Tr AV → Heap → Prop) (h : ∀ m T H, I m T H → Tri P N H0 x T H (behind (fun T H => ∃ m', m' < m ∧ I m' T H) Q)) {m : Nat} (hi : I m T H) : Tri P N H0 (.loop x) T H Q := by
  intro φ0 w0 a u h0 ha
  refine wp_loop_n (fun m a u => ∃ T H, I m T H ∧ At2 P φ0 H0 w0 N T H a u) ?_ m a u ⟨T, H, hi, ha⟩
  rintro m a u ⟨T, H, hi, ha⟩
  refine wp_mono (h m T H hi φ0 w0 a u h0 ha) ?_
  rintro _ a1 u1 ⟨e, T1, H1, q, rfl, h1⟩
  cases e with
  | norm => obtain ⟨m', hm, hi'⟩ := q; exact ⟨m', hm, T1, H1, hi', h1⟩
  | exit n => exact ⟨.exit n, T1, H1, q, rfl, h1⟩
  | ret => exact ⟨.ret, T1, H1, q, rfl, h1⟩
end

/-! ### A region in the text's order -/
/-- what an operation comes to, and what is to be done with it -/
def R1.go (P : Program) (H : Heap) (r : R1) (K : AV → Heap → Prop) : Prop := match r with
  | .fail => False
  | .val v G => K v G
  | .call f args => FnOk P f args H K
/-- one step, handed on -/
def Stp.go (P : Program) : Stp → Tr AV → Heap → (Tr AV → Heap → Prop) → Prop
  | .mk g dst gd _, T, H, K => gdC T gd False ((g T H).go P H fun v G => putT T dst v fun T => K T G) (putT T dst (.tup []) fun T => K T H)
def Stp.goes (P : Program) : List Stp → Tr AV → Heap → (Tr AV → Heap → Prop) → Prop
  | [], T, H, K => K T H
  | s :: l, T, H, K => s.go P T H fun T H => Stp.goes P l T H K

theorem op_go {ops : Array Oper} {Q : Exit → Act → World → Prop} {N : Nat} {i : Nat} {o : Oper} (ho : ops[i]? = some o) {st : Stp} (hst : stpOf P ops o = some st) (hd : ∀ d, o.dst = some d → d < N)
    {φ0 : Phi} {H0 : Heap} {w0 : World} (hat : At2 P φ0 H0 w0 N T H a w) {K : Tr AV → Heap → Prop} (h : st.go P T H K) {next : Act → World → Prop}
    (hn : ∀ T' H' a' u, K T' H' → At2 P φ0 H0 w0 N T' H' a' u → next a' u) : wpOp P ops Q i next a w := by
  obtain ⟨hdef, φ, ht, hw, he0⟩ := hat
  unfold stpOf at hst
  obtain ⟨g, hg, hst⟩ := bind_some hst
  obtain ⟨gd, hgd, rfl⟩ := map_some hst
  have h : gdC T gd False ((g T H).go P H fun v G => putT T (o.dst.map keyOf) v fun T => K T G) (putT T (o.dst.map keyOf) (.tup []) fun T => K T H) := h
  rcases gdC_sound hgd (ht.at _) False ((g T H).go P H fun v G => putT T (o.dst.map keyOf) v fun T => K T G) (putT T (o.dst.map keyOf) (.tup []) fun T => K T H) with e | ⟨e, hwant⟩ | ⟨e, hwant⟩ <;> rw [e] at h
  · exact h.elim
  · have hran := cop_sound (a := a) (T := T) hw hg (ht.at _)
    unfold wpOp
    rw [ho]
    simp only [hwant, if_true]
    left
    cases hr : g T H with
    | fail => rw [hr] at h; exact h.elim
    | val v G =>
      rw [hr] at hran h
      obtain ⟨T1, hp, e1⟩ := putT_sel T (o.dst.map keyOf) v
      have h : putT T (o.dst.map keyOf) v (fun T => K T G) := h
      rw [e1] at h
      cases hran with
      | val v G nx v' u ψ hrun hnx hw' he hv =>
        have hfin : At2 P φ0 H0 w0 N T1 G (a.put o.dst v') u := ⟨by cases hod : o.dst <;> simp [Act.put, hdef], ψ, (ht.mono (he.le hw)).put hd hv hp, hw', he0.trans he⟩
        unfold Oper.wp
        rw [hrun]
        rcases hnx with rfl | ⟨rfl, rfl⟩
        · exact hn _ _ _ _ h hfin
        · exact hn _ _ _ _ h hfin
    | call fn args =>
      rw [hr] at hran h
      have h : FnOk P fn args H fun v G => putT T (o.dst.map keyOf) v fun T => K T G := h
      cases hran with
      | call fn args args' hrun ha =>
        unfold Oper.wp
        rw [hrun]
        refine (h φ w args' ha hw).mono fun e u ⟨v, G, hk, ψ, v', he1, hv, hw', he⟩ => ?_
        subst he1
        obtain ⟨T1, hp, e1⟩ := putT_sel T (o.dst.map keyOf) v
        have hk : putT T (o.dst.map keyOf) v (fun T => K T G) := hk
        rw [e1] at hk
        exact hn _ _ _ _ hk ⟨by cases hod : o.dst <;> simp [Act.put, hdef], ψ, (ht.mono (he.le hw)).put hd hv hp, hw', he0.trans he⟩
  · obtain ⟨T1, hp, e1⟩ := putT_sel T (o.dst.map keyOf) (.tup [])
    rw [e1] at h
    unfold wpOp
    rw [ho]
    simp only [hwant]
    exact hn _ _ _ _ h ⟨by cases hod : o.dst <;> simp [Act.put, hdef], φ, ht.put hd (.tup _ #[] .nil) hp, hw, he0⟩

theorem steps_go {ops : Array Oper} {Q : Exit → Act → World → Prop} {N : Nat} {φ0 : Phi} {H0 : Heap} {w0 : World} {K : Tr AV → Heap → Prop} (hQ : ∀ T' H' a' u, K T' H' → At2 P φ0 H0 w0 N T' H' a' u → Q .normal a' u) :
    ∀ (l : List Oper) (k : Nat) (sts : List Stp), (∀ j, j < l.length → ops[k + j]? = l[j]?) → planL P ops l = some sts → (∀ o ∈ l, ∀ d, o.dst = some d → d < N) →
      ∀ (T : Tr AV) (H : Heap) (a : Act) (w : World), At2 P φ0 H0 w0 N T H a w → Stp.goes P sts T H K → wpOps P ops Q ((List.range l.length).map (k + ·)) a w
  | [], k, sts, _, hp, _, T, H, a, w, ha, h => by
    simp only [planL, Option.some.injEq] at hp
    subst hp
    exact hQ _ _ _ _ h ha
  | o :: l, k, sts, hl, hp, hd, T, H, a, w, ha, h => by
    simp only [planL] at hp
    obtain ⟨st, hst, hp⟩ := bind_some hp
    obtain ⟨r, hr, rfl⟩ := map_some hp
    have ho : ops[k]? = some o := by have := hl 0 (by simp); simpa using this
    have hrest : ∀ j, j < l.length → ops[k + 1 + j]? = l[j]? := fun j hj => by
      have := hl (j + 1) (by simp; omega)
      rw [show k + (j + 1) = k + 1 + j by omega] at this
      simpa using this
    have hlist : (List.range (o :: l).length).map (k + ·) = k :: (List.range l.length).map (k + 1 + ·) := by
      rw [List.length_cons, List.range_succ_eq_map, List.map_cons, List.map_map]
      congr 1
      apply List.map_congr_left
      intro j _
      simp only [Function.comp]
      omega
    rw [hlist, wpOps_cons]
    exact op_go ho hst (hd o (by simp)) ha h fun T1 H1 a1 w1 h1 h2 => steps_go hQ l (k + 1) r hrest hr (fun o ho => hd o (by simp [ho])) T1 H1 a1 w1 h2 h1

theorem Tri.region {N id : Nat} {H0 : Heap} {ops : Array Oper} {Q : Ex → Tr AV → Heap → Prop} {sts : List Stp} (hok : codeOk N (.region id ops false) = true) (hp : planL P ops ops.toList = some sts) (h : Stp.goes P sts T H fun T H => Q .norm T H) :
    Tri P N H0 (.region id ops false) T H Q := by
  intro φ0 w0 a u h0 ha
  have hd : ∀ o ∈ ops.toList, ∀ d, o.dst = some d → d < N := by
    intro o ho d hd
    simp only [codeOk, List.all_eq_true] at hok
    have := hok o ho
    rw [hd] at this
    exact Nat.le_of_ble_eq_true this
  refine wp_region ?_
  have := steps_go (P := P) (ops := ops) (Q := fun x a' u' => ∃ e T' H', Q e T' H' ∧ x = exOf e ∧ At2 P φ0 H0 w0 N T' H' a' u') (K := fun T H => Q .norm T H) (fun T' H' a' u' hk hat => ⟨.norm, T', H', hk, rfl, hat⟩)
    ops.toList 0 sts (fun j hj => by simp) hp hd T H a u ha h
  simpa using this

/-! ### A region that draws its order -/
theorem Tri.regionD {N id : Nat} {H0 : Heap} {ops : Array Oper} {Q : Ex → Tr AV → Heap → Prop} {sts : List Stp} (hok : codeOk N (.region id ops true) = true) (hm : P.follows .mixedOrders = true) (hp : planD P ops = some sts)
    {E : FuncId → List AV → Heap → RC} (hE : Good P E) {eqv : AV → AV → Bool} (heq : ∀ a b, eqv a b = true → a = b) {T' : Tr AV} {H' : Heap} (hs : stepsR eqv E sts T H = some (T', H')) (h : Q .norm T' H') : Tri P N H0 (.region id ops true) T H Q := by
  intro φ0 w0 a u h0 ha
  obtain ⟨hdef, φ, ht, hw, he⟩ := ha
  have hd : ∀ o ∈ ops.toList, ∀ d, o.dst = some d → d < N := by
    intro o ho d hd
    simp only [codeOk, List.all_eq_true] at hok
    have := hok o ho
    rw [hd] at this
    exact Nat.le_of_ble_eq_true this
  obtain ⟨hst, ord, hplan, hcov⟩ := planD_sound (N := N) (fun i o t ho hd' => hd o (by simpa using Array.mem_of_getElem? ho) t hd') hp
  have hnl : ∀ i, ¬ lst (Array.replicate ops.size false) i := by
    intro i hi
    unfold lst at hi
    simp only [Array.getD_eq_getD_getElem?, Array.getElem?_replicate] at hi
    split at hi <;> simp at hi
  refine wp_region_any hm ?_
  refine any_sound heq hE hst hplan hcov (φ0 := φ) (H0 := H) (w0 := { u with drawn := u.drawn + 1 }) (T1 := T') (H1 := H') (fun a' v hv => ⟨.norm, T', H', h, rfl, hv.1, let ⟨ψ, h1, h2, h3⟩ := hv.2; ⟨ψ, h1, h2, he.trans (h3.drew0 _)⟩⟩) ops.size (List.range ops.size) (by simp) _ [] ord sts T H φ a _ (fun _ => none)
    (fun j hj _ => by simpa using hj) hplan (fun j hj => .inr (hcov j hj)) ?_ hs
  exact ⟨by simp, fun i o _ h => absurd h (hnl i), fun i h => absurd h (hnl i), by simp, by simp, by simp, by simp, by simp, ht.size, fun t v hv => .inr (ht.get t v hv), hw.drew _, Ext.refl _ _ _, hdef⟩

/-! ### A function -/
/-- results, and what is to be done with them -/
def packC (vs : List AV) : AV := match vs with
  | [v] => v
  | vs => .tup vs
theorem FnOk.of_tri {f : FuncId} {fn : Func} {c : Code} {ks : List RK} {args : List AV} {Q : AV → Heap → Prop} (hf : P.funcs[f]? = some fn) (hb : fn.body = some c) (hk : resKs P fn.results.toList = some ks)
    {T0 : Tr AV} (hT : argsC args .z .lf (fun T => T) = T0)
    (h : Tri P fn.ntmps H c T0 H fun e T' H' => (match e with | .exit _ => False | _ => True) ∧ getsC T' H' ks False fun vs => Q (packC vs) H') : FnOk P f args H Q := by
  intro φ w args' ha hw
  obtain ⟨T, e1, hT'⟩ := argsC_eq args 0 .lf (fun T => T)
  have e1 : argsC args .z .lf (fun T => T) = T := e1
  rw [e1] at hT
  subst hT
  have ht : TR P φ fn.ntmps T (args' ++ Array.replicate (fn.ntmps - args'.size) undef) := by
    have hlen := ha.length
    refine ⟨by simp; omega, fun t x hx => ?_⟩
    rw [hT'] at hx
    split at hx
    · obtain ⟨x', h1, h2⟩ := ha.nth (t - 0) hx
      refine ⟨x', ?_, h2⟩
      have hlt : t < args'.size := by
        have := (List.getElem?_eq_some_iff.1 h1).1
        simpa using this
      rw [Array.getElem?_append_left hlt]
      simpa using h1
    · rw [Tr.get_lf] at hx; cases hx
  refine calls_of_wp hf hb ?_
  refine wp_mono (h φ w { tmps := args' ++ Array.replicate (fn.ntmps - args'.size) undef, defers := [] } w hw ⟨rfl, φ, ht, hw, Ext.refl _ _ _⟩) ?_
  rintro _ a1 w1 ⟨e, T1, H1, ⟨hne, hq⟩, rfl, hd1, ψ, ht1, hw1, he1⟩
  have fin : a1.defers = [] ∧ ∃ r, (results fn a1.tmps).run P w1 = .ok r w1 ∧ ∃ v G, Q v G ∧ ∃ ψ v', Ending.returned r = .returned v' ∧ VRel P ψ v v' ∧ WRel P ψ G w1 ∧ Ext φ H w ψ G w1 := by
    refine ⟨hd1, ?_⟩
    rcases gets_sound hw1 ht1 False fn.results.toList ks (fun vs => Q (packC vs) H1) hk with e2 | ⟨vs, vs', e2, h3, h4⟩ <;> rw [e2] at hq
    · exact hq.elim
    have hrun : (results fn a1.tmps).run P w1 = .ok (if h : vs'.toArray.size = 1 then vs'.toArray[0] else .tuple vs'.toArray) w1 := by
      show (do let vs ← fn.results.mapM (resG a1.tmps); pure (if h : vs.size = 1 then vs[0] else Value.tuple vs) : Sem Value).run P w1 = _
      rw [Array.mapM_eq_mapM_toList]
      simp only [Sem.run_bind, Sem.run_map, h4, Result.andThen_ok, Sem.run_pure]
    refine ⟨_, hrun, packC vs, H1, hq, ψ, _, rfl, ?_, hw1, he1⟩
    cases h3 with
    | nil => exact .tup _ #[] .nil
    | cons x l x' l' hx hl =>
      cases hl with
      | nil => exact hx
      | cons y l y' l' hy hl =>
        rw [dif_neg (by simp)]
        exact .tup _ _ (.cons _ _ _ _ hx (.cons _ _ _ _ hy hl))
  cases e with
  | norm => exact fin
  | ret => exact fin
  | exit k => exact hne.elim

end Go.Ev
