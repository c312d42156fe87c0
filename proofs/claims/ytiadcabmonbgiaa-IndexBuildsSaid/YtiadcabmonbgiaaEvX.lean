/- Code laid out in steps beforehand; rules over it. -/
import Derived.Test.YtiadcabmonbgiaaEvW
namespace Go.Ev
variable {P : Program} {φ ψ : Phi} {H : Heap} {w u : World} {T : Tr AV} {a : Act}

/-- code whose operations are laid out -/
inductive CC where
  | skip
  | ret
  | exit (n : Nat)
  | region (l : List Stp)
  | regionD (l : List Stp)
  | seq (x y : CC)
  | cond (c : X) (x y : CC)
  | block (id : Nat) (x : CC)
  | loop (x : CC)

noncomputable def comp (P : Program) (N : Nat) : Code → Option CC
  | .skip => some .skip
  | .ret => some .ret
  | .exit n => some (.exit n)
  | .region id ops draw => bif' (codeOk N (.region id ops draw)) (bif' draw (bif' (P.follows .mixedOrders) ((planD P ops).map .regionD) none) ((planL P ops ops.toList).map .region)) none
  | .seq x y => (comp P N x).bind fun x => (comp P N y).map fun y => .seq x y
  | .cond o x y => (cX o).bind fun o => (comp P N x).bind fun x => (comp P N y).map fun y => .cond o x y
  | .block id x => (comp P N x).map fun x => .block id x
  | .loop x => (comp P N x).map fun x => .loop x
  | _ => none

def TriC (P : Program) (N : Nat) (H0 : Heap) (c : CC) (T : Tr AV) (H : Heap) (Q : Ex → Tr AV → Heap → Prop) : Prop := ∀ code, comp P N code = some c → Tri P N H0 code T H Q

/-- a region that draws its order: what is reckoned, handed on -/
def Stp.goD (P : Program) (E : FuncId → List AV → Heap → RC) (eqv : AV → AV → Bool) : Stp → Tr AV → Heap → (Tr AV → Heap → Prop) → Prop
  | .mk g dst gd re, T, H, K => gdC T gd False
    (match g T H with
      | .fail => False
      | .val v G => putT T dst v fun T => reC eqv T G re False (K T G)
      | .call f args => match E f args H with | .fail => False | .ok v G => putT T dst v fun T => reC eqv T G re False (K T G))
    (putT T dst (.tup []) fun T => K T H)
def Stp.goesD (P : Program) (E : FuncId → List AV → Heap → RC) (eqv : AV → AV → Bool) : List Stp → Tr AV → Heap → (Tr AV → Heap → Prop) → Prop
  | [], T, H, K => K T H
  | s :: l, T, H, K => s.goD P E eqv T H fun T H => Stp.goesD P E eqv l T H K

theorem goesD_steps {E : FuncId → List AV → Heap → RC} {eqv : AV → AV → Bool} {K : Tr AV → Heap → Prop} : ∀ (l : List Stp) (T : Tr AV) (H : Heap), Stp.goesD P E eqv l T H K → ∃ T' H', stepsR eqv E l T H = some (T', H') ∧ K T' H'
  | [], T, H, h => ⟨T, H, rfl, h⟩
  | .mk g dst gd re :: l, T, H, h => by
    have h : gdC T gd False
      (match g T H with
        | .fail => False
        | .val v G => putT T dst v fun T => reC eqv T G re False (Stp.goesD P E eqv l T G K)
        | .call f args => match E f args H with | .fail => False | .ok v G => putT T dst v fun T => reC eqv T G re False (Stp.goesD P E eqv l T G K))
      (putT T dst (.tup []) fun T => Stp.goesD P E eqv l T H K) := h
    have hrw : stepR eqv E (.mk g dst gd re) T H = gdC T gd none
      (R1.rec (motive := fun _ => Option (Tr AV × Heap)) none (fun v G => putT T dst v fun T => reC eqv T G re none (some (T, G))) (fun fn args => RC.rec (motive := fun _ => Option (Tr AV × Heap)) none (fun v G => putT T dst v fun T => reC eqv T G re none (some (T, G))) (E fn args H)) (g T H))
      (putT T dst (.tup []) fun T => some (T, H)) := rfl
    have key : ∀ (v : AV) (G : Heap), putT T dst v (fun T => reC eqv T G re False (Stp.goesD P E eqv l T G K)) → ∃ T1 G1, putT T dst v (fun T => reC eqv T G re none (some (T, G))) = some (T1, G1) ∧ Stp.goesD P E eqv l T1 G1 K := by
      intro v G hk
      obtain ⟨T1, hp, e1⟩ := putT_sel T dst v
      rw [e1] at hk
      rcases reC_sel eqv T1 G re with e | ⟨_, e⟩
      · rw [e] at hk; exact hk.elim
      · rw [e] at hk; exact ⟨T1, G, by rw [e1, e], hk⟩
    suffices hs : ∃ T1 G1, stepR eqv E (.mk g dst gd re) T H = some (T1, G1) ∧ Stp.goesD P E eqv l T1 G1 K by
      obtain ⟨T1, G1, e, hk⟩ := hs
      obtain ⟨T2, G2, e2, hk2⟩ := goesD_steps l T1 G1 hk
      exact ⟨T2, G2, by rw [stepsR_cons, e]; exact e2, hk2⟩
    rw [hrw]
    rcases gdC_sel T gd with e | e | e <;> rw [e] at h ⊢
    · exact h.elim
    · cases hg : g T H with
      | fail => rw [hg] at h; exact h.elim
      | val v G => rw [hg] at h; exact key v G h
      | call fn args =>
        rw [hg] at h
        have h : (match E fn args H with | .fail => False | .ok v G => putT T dst v fun T => reC eqv T G re False (Stp.goesD P E eqv l T G K)) := h
        cases hE : E fn args H with
        | fail => rw [hE] at h; exact h.elim
        | ok v G =>
          rw [hE] at h
          obtain ⟨T1, G1, e1, hk⟩ := key v G h
          refine ⟨T1, G1, ?_, hk⟩
          rw [← e1]
          show (RC.rec (motive := fun _ => Option (Tr AV × Heap)) none (fun v G => putT T dst v fun T => reC eqv T G re none (some (T, G))) (E fn args H) : Option (Tr AV × Heap)) = _
          rw [hE]
    · obtain ⟨T1, hp, e1⟩ := putT_sel T dst (.tup [])
      rw [e1] at h
      exact ⟨T1, H, by rw [e1], h⟩

section
variable {N : Nat} {H0 : Heap} {x y : CC} {Q R : Ex → Tr AV → Heap → Prop}
theorem TriC.mono {c : CC} (h : TriC P N H0 c T H Q) (hq : ∀ e T H, Q e T H → R e T H) : TriC P N H0 c T H R := fun code hc => (h code hc).mono hq
/-- what a laid-out code is of -/
theorem comp_inv {code : Code} {c : CC} (h : comp P N code = some c) : match c with
    | .skip => code = .skip
    | .ret => code = .ret
    | .exit n => code = .exit n
    | .region l => ∃ id ops, code = .region id ops false ∧ codeOk N (.region id ops false) = true ∧ planL P ops ops.toList = some l
    | .regionD l => ∃ id ops, code = .region id ops true ∧ codeOk N (.region id ops true) = true ∧ P.follows .mixedOrders = true ∧ planD P ops = some l
    | .seq x y => ∃ a b, code = .seq a b ∧ comp P N a = some x ∧ comp P N b = some y
    | .cond o x y => ∃ q a b, code = .cond q a b ∧ cX q = some o ∧ comp P N a = some x ∧ comp P N b = some y
    | .block id x => ∃ a, code = .block id a ∧ comp P N a = some x
    | .loop x => ∃ a, code = .loop a ∧ comp P N a = some x := by
  cases code with
  | skip => cases h; rfl
  | ret => cases h; rfl
  | exit n => cases h; rfl
  | region id ops draw =>
    simp only [comp] at h
    rw [bif_eq] at h
    split at h
    · rename_i hok
      cases draw
      · obtain ⟨l, hl, rfl⟩ := map_some h
        exact ⟨id, ops, rfl, hok, hl⟩
      · rw [bif_true, bif_eq] at h
        split at h
        · rename_i hm
          obtain ⟨l, hl, rfl⟩ := map_some h
          exact ⟨id, ops, rfl, hok, hm, hl⟩
        · cases h
    · cases h
  | seq a b =>
    simp only [comp] at h
    obtain ⟨x, hx, h⟩ := bind_some h
    obtain ⟨y, hy, rfl⟩ := map_some h
    exact ⟨a, b, rfl, hx, hy⟩
  | cond q a b =>
    simp only [comp] at h
    obtain ⟨o, ho, h⟩ := bind_some h
    obtain ⟨x, hx, h⟩ := bind_some h
    obtain ⟨y, hy, rfl⟩ := map_some h
    exact ⟨q, a, b, rfl, ho, hx, hy⟩
  | block id a =>
    simp only [comp] at h
    obtain ⟨x, hx, rfl⟩ := map_some h
    exact ⟨a, rfl, hx⟩
  | loop a =>
    simp only [comp] at h
    obtain ⟨x, hx, rfl⟩ := map_some h
    exact ⟨a, rfl, hx⟩
  | rangeFunc => cases h
  | scope => cases h
  | label => cases h
  | goto => cases h
  | refuse => cases h
theorem TriC.skip (h : Q .norm T H) : TriC P N H0 .skip T H Q := fun code hc => by have e : code = .skip := comp_inv hc; rw [e]; exact Tri.skip h
theorem TriC.ret (h : Q .ret T H) : TriC P N H0 .ret T H Q := fun code hc => by have e : code = .ret := comp_inv hc; rw [e]; exact Tri.ret h
theorem TriC.exit {id : Nat} (h : Q (.exit id) T H) : TriC P N H0 (.exit id) T H Q := fun code hc => by have e : code = .exit id := comp_inv hc; rw [e]; exact Tri.exit h
theorem TriC.seq (h : TriC P N H0 x T H (behind (fun T H => TriC P N H0 y T H Q) Q)) : TriC P N H0 (.seq x y) T H Q := fun _ hc => by
  obtain ⟨a, b, rfl, ha, hb⟩ := comp_inv hc
  refine Tri.seq ((h a ha).mono fun e T H q => ?_)
  cases e with
  | norm => exact q b hb
  | exit n => exact q
  | ret => exact q
theorem TriC.cond {o : X} {b : Bool} (hb : evX T o = some (.bool b)) (ht : b = true → TriC P N H0 x T H Q) (hf : b = false → TriC P N H0 y T H Q) : TriC P N H0 (.cond o x y) T H Q := fun _ hc => by
  obtain ⟨q, a, c, rfl, ho, ha, hcc⟩ := comp_inv hc
  exact Tri.cond (b := b) (fun z hz => by rw [ho] at hz; cases hz; exact hb) (by rw [ho]; rfl) (fun h => ht h a ha) (fun h => hf h c hcc)
theorem TriC.condT {o : X} (hb : evX T o = some (.bool true)) (ht : TriC P N H0 x T H Q) : TriC P N H0 (.cond o x y) T H Q := .cond hb (fun _ => ht) (fun h => by cases h)
theorem TriC.condF {o : X} (hb : evX T o = some (.bool false)) (hf : TriC P N H0 y T H Q) : TriC P N H0 (.cond o x y) T H Q := .cond hb (fun h => by cases h) (fun _ => hf)
theorem TriC.block {id : Nat} (h : TriC P N H0 x T H (outOf id Q)) : TriC P N H0 (.block id x) T H Q := fun _ hc => by
  obtain ⟨a, rfl, ha⟩ := comp_inv hc
  exact Tri.block (h a ha)
theorem TriC.loop (I : Nat → Tr AV → Heap → Prop) (h : ∀ m T H, I m T H → TriC P N H0 x T H (behind (fun T H => ∃ m', m' < m ∧ I m' T H) Q)) {m : Nat} (hi : I m T H) : TriC P N H0 (.loop x) T H Q := fun _ hc => by
  obtain ⟨a, rfl, ha⟩ := comp_inv hc
  exact Tri.loop I (fun m T H hi => h m T H hi a ha) hi
theorem TriC.region {l : List Stp} (h : Stp.goes P l T H fun T H => Q .norm T H) : TriC P N H0 (.region l) T H Q := fun _ hc => by
  obtain ⟨id, ops, rfl, hok, hp⟩ := comp_inv hc
  exact Tri.region hok hp h
theorem TriC.regionD {l : List Stp} {E : FuncId → List AV → Heap → RC} (hE : Good P E) {eqv : AV → AV → Bool} (heq : ∀ a b, eqv a b = true → a = b) (h : Stp.goesD P E eqv l T H fun T H => Q .norm T H) : TriC P N H0 (.regionD l) T H Q := fun _ hc => by
  obtain ⟨id, ops, rfl, hok, hm, hp⟩ := comp_inv hc
  obtain ⟨T1, H1, e, hq⟩ := goesD_steps l T H h
  exact Tri.regionD hok hm hp hE heq e hq
theorem TriC.wk {c : CC} {l l2 : List Blk} {ts : List (K × AV)} {σ : List Nat} (hk : Wk H0 T l ts l2 σ) (h : TriC P N H0 c (trOf ts) (H0.ext l2) Q) : TriC P N H0 c T (H0.ext l) Q := fun code hc => (h code hc).wk hk
theorem TriC.kept {c : CC} (h : TriC P N H0 c T H (Kept H0 Q)) : TriC P N H0 c T H Q := fun code hc => (h code hc).kept
end

/-- nothing is known beforehand -/
noncomputable def E0 : FuncId → List AV → Heap → RC := fun _ _ _ => .fail
theorem good_E0 : Good P E0 := fun _ _ _ _ _ h => by cases h
/-- one call more is known -/
noncomputable def withE (E : FuncId → List AV → Heap → RC) (f : FuncId) (args : List AV) (H : Heap) (v : AV) (G : Heap) : FuncId → List AV → Heap → RC :=
  fun f' args' H' => open Classical in if f' = f ∧ args' = args ∧ H' = H then .ok v G else E f' args' H'
theorem good_withE {E : FuncId → List AV → Heap → RC} (hE : Good P E) {f : FuncId} {args : List AV} {H : Heap} {v : AV} {G : Heap} (h : FnOk P f args H fun v' G' => v' = v ∧ G' = G) : Good P (withE E f args H v G) := by
  intro f' args' H' v' G' he
  unfold withE at he
  split at he
  · rename_i hc
    obtain ⟨rfl, rfl, rfl⟩ := hc
    cases he
    intro φ w a ha hw
    exact h.one φ w a ha hw
  · exact hE _ _ _ _ _ he
/-- two values are one -/
noncomputable def eqvC (a b : AV) : Bool := open Classical in decide (a = b)
theorem eqvC_eq (a b : AV) (h : eqvC a b = true) : a = b := by unfold eqvC at h; exact @of_decide_eq_true _ (Classical.propDecidable _) h
theorem eqvC_refl (a : AV) : eqvC a a = true := by unfold eqvC; exact @decide_eq_true _ (Classical.propDecidable _) rfl

/-- which way, by what there is -/
def condP (o : Option AV) (p q : Prop) : Prop := match o with
  | some (.bool true) => p
  | some (.bool false) => q
  | _ => False
/-- What is to be shown of laid-out code: all but its loops is walked. -/
noncomputable def wpc (P : Program) (E : FuncId → List AV → Heap → RC) (N : Nat) (H0 : Heap) : CC → Tr AV → Heap → (Ex → Tr AV → Heap → Prop) → Prop
  | .skip, T, H, Q => Q .norm T H
  | .ret, T, H, Q => Q .ret T H
  | .exit n, T, H, Q => Q (.exit n) T H
  | .region l, T, H, Q => Stp.goes P l T H fun T H => Q .norm T H
  | .regionD l, T, H, Q => Stp.goesD P E eqvC l T H fun T H => Q .norm T H
  | .seq x y, T, H, Q => wpc P E N H0 x T H (behind (fun T H => wpc P E N H0 y T H Q) Q)
  | .cond c x y, T, H, Q => condP (evX T c) (wpc P E N H0 x T H Q) (wpc P E N H0 y T H Q)
  | .block id x, T, H, Q => wpc P E N H0 x T H (outOf id Q)
  | .loop x, T, H, Q => TriC P N H0 (.loop x) T H Q
theorem wpc_ok {E : FuncId → List AV → Heap → RC} (hE : Good P E) {N : Nat} {H0 : Heap} : ∀ (c : CC) (T : Tr AV) (H : Heap) (Q : Ex → Tr AV → Heap → Prop), wpc P E N H0 c T H Q → TriC P N H0 c T H Q
  | .skip, T, H, Q, h => TriC.skip h
  | .ret, T, H, Q, h => TriC.ret h
  | .exit n, T, H, Q, h => TriC.exit h
  | .region l, T, H, Q, h => TriC.region h
  | .regionD l, T, H, Q, h => TriC.regionD hE eqvC_eq h
  | .seq x y, T, H, Q, h => TriC.seq ((wpc_ok hE x T H _ h).mono fun e T H q => by
      cases e with
      | norm => exact wpc_ok hE y T H Q q
      | exit n => exact q
      | ret => exact q)
  | .cond c x y, T, H, Q, h => by
      have h : condP (evX T c) (wpc P E N H0 x T H Q) (wpc P E N H0 y T H Q) := h
      unfold condP at h
      split at h
      · rename_i he; exact TriC.condT he (wpc_ok hE x T H Q h)
      · rename_i he; exact TriC.condF he (wpc_ok hE y T H Q h)
      · exact h.elim
  | .block id x, T, H, Q, h => TriC.block (wpc_ok hE x T H _ h)
  | .loop x, T, H, Q, h => h

theorem gdC_mono {T : Tr AV} {gd : Gd} {p q r s : Prop} (h1 : p → r) (h2 : q → s) (h : gdC T gd False p q) : gdC T gd False r s := by
  rcases gdC_sel T gd with e | e | e <;> rw [e] at h ⊢
  · exact h
  · exact h1 h
  · exact h2 h
theorem goes_mono : ∀ (l : List Stp) (T : Tr AV) (H : Heap) (R R' : Tr AV → Heap → Prop), (∀ T H, R T H → R' T H) → Stp.goes P l T H R → Stp.goes P l T H R'
  | [], T, H, R, R', hr, h => hr _ _ h
  | .mk g dst gd re :: l, T, H, R, R', hr, h => by
    have h : gdC T gd False ((g T H).go P H fun v G => putT T dst v fun T => Stp.goes P l T G R) (putT T dst (.tup []) fun T => Stp.goes P l T H R) := h
    have hp : ∀ (v : AV) (G : Heap), (putT T dst v fun T => Stp.goes P l T G R) → putT T dst v fun T => Stp.goes P l T G R' := by
      intro v G h
      obtain ⟨T1, _, e1⟩ := putT_sel T dst v
      rw [e1] at h ⊢
      exact goes_mono l T1 G R R' hr h
    refine gdC_mono ?_ (hp _ _) h
    intro h
    cases hg : g T H with
    | fail => rw [hg] at h; exact h
    | val v G => rw [hg] at h; exact hp v G h
    | call f args => rw [hg] at h; exact FnOk.mono h fun v G h => hp v G h
theorem reC_mono {eqv : AV → AV → Bool} {T : Tr AV} {H : Heap} {re : List Rk} {p q : Prop} (h1 : p → q) (h : reC eqv T H re False p) : reC eqv T H re False q := by
  rcases reC_sel eqv T H re with e | ⟨_, e⟩ <;> rw [e] at h ⊢
  · exact h
  · exact h1 h
theorem goesD_mono {E : FuncId → List AV → Heap → RC} {eqv : AV → AV → Bool} : ∀ (l : List Stp) (T : Tr AV) (H : Heap) (R R' : Tr AV → Heap → Prop), (∀ T H, R T H → R' T H) → Stp.goesD P E eqv l T H R → Stp.goesD P E eqv l T H R'
  | [], T, H, R, R', hr, h => hr _ _ h
  | .mk g dst gd re :: l, T, H, R, R', hr, h => by
    have h : gdC T gd False
      (match g T H with
        | .fail => False
        | .val v G => putT T dst v fun T => reC eqv T G re False (Stp.goesD P E eqv l T G R)
        | .call f args => match E f args H with | .fail => False | .ok v G => putT T dst v fun T => reC eqv T G re False (Stp.goesD P E eqv l T G R))
      (putT T dst (.tup []) fun T => Stp.goesD P E eqv l T H R) := h
    have hp : ∀ (v : AV) (G : Heap), (putT T dst v fun T => reC eqv T G re False (Stp.goesD P E eqv l T G R)) → putT T dst v fun T => reC eqv T G re False (Stp.goesD P E eqv l T G R') := by
      intro v G h
      obtain ⟨T1, _, e1⟩ := putT_sel T dst v
      rw [e1] at h ⊢
      exact reC_mono (goesD_mono l T1 G R R' hr) h
    refine gdC_mono ?_ ?_ h
    · intro h
      cases hg : g T H with
      | fail => rw [hg] at h; exact h
      | val v G => rw [hg] at h; exact hp v G h
      | call f args =>
        rw [hg] at h
        have h : (match E f args H with | .fail => False | .ok v G => putT T dst v fun T => reC eqv T G re False (Stp.goesD P E eqv l T G R)) := h
        show (match E f args H with | .fail => False | .ok v G => putT T dst v fun T => reC eqv T G re False (Stp.goesD P E eqv l T G R'))
        cases hE : E f args H with
        | fail => rw [hE] at h; exact h
        | ok v G => rw [hE] at h; exact hp v G h
    · intro h
      obtain ⟨T1, _, e1⟩ := putT_sel T dst (.tup [])
      rw [e1] at h ⊢
      exact goesD_mono l T1 H R R' hr h
theorem wpc_mono {E : FuncId → List AV → Heap → RC} {N : Nat} {H0 : Heap} : ∀ (c : CC) (T : Tr AV) (H : Heap) (Q R : Ex → Tr AV → Heap → Prop), (∀ e T H, Q e T H → R e T H) → wpc P E N H0 c T H Q → wpc P E N H0 c T H R
  | .skip, T, H, Q, R, hr, h => hr _ _ _ h
  | .ret, T, H, Q, R, hr, h => hr _ _ _ h
  | .exit n, T, H, Q, R, hr, h => hr _ _ _ h
  | .region l, T, H, Q, R, hr, h => goes_mono l T H _ _ (fun T H h => hr _ _ _ h) h
  | .regionD l, T, H, Q, R, hr, h => goesD_mono l T H _ _ (fun T H h => hr _ _ _ h) h
  | .seq x y, T, H, Q, R, hr, h => wpc_mono x T H _ _ (fun e T H q => by
      cases e with
      | norm => exact wpc_mono y T H Q R hr q
      | exit n => exact hr _ _ _ q
      | ret => exact hr _ _ _ q) h
  | .cond c x y, T, H, Q, R, hr, h => by
      have h : condP (evX T c) (wpc P E N H0 x T H Q) (wpc P E N H0 y T H Q) := h
      show condP (evX T c) (wpc P E N H0 x T H R) (wpc P E N H0 y T H R)
      unfold condP at h ⊢
      split at h
      · exact wpc_mono x T H Q R hr h
      · exact wpc_mono y T H Q R hr h
      · exact h
  | .block id x, T, H, Q, R, hr, h => wpc_mono x T H _ _ (fun e T H q => by
      cases e with
      | norm => exact hr _ _ _ q
      | ret => exact hr _ _ _ q
      | exit n =>
        have q : (if n = id then Q .norm T H else Q (.exit n) T H) := q
        show (if n = id then R .norm T H else R (.exit n) T H)
        split at q
        · rename_i e; rw [if_pos e]; exact hr _ _ _ q
        · rename_i e; rw [if_neg e]; exact hr _ _ _ q) h
  | .loop x, T, H, Q, R, hr, h => TriC.mono h hr

/-- a function's end isn't an exit from a block -/
def Ex.over : Ex → Prop
  | .exit _ => False
  | _ => True
theorem FnOk.of_comp {f : FuncId} {fn : Func} {c : CC} {N : Nat} {ks : List RK} {args : List AV} {Q : AV → Heap → Prop} (hf : P.funcs[f]? = some fn) (hN : fn.ntmps = N) (hc : (match fn.body with | some code => comp P N code | none => none) = some c)
    (hk : resKs P fn.results.toList = some ks) (h : TriC P N H c (argsC args .z .lf fun T => T) H fun e T' H' => e.over ∧ getsC T' H' ks False fun vs => Q (packC vs) H') : FnOk P f args H Q := by
  subst hN
  cases hb : fn.body with
  | none => rw [hb] at hc; cases hc
  | some code =>
    rw [hb] at hc
    refine .of_tri hf hb hk rfl ((h code hc).mono fun e T' H' ⟨h1, h2⟩ => ⟨?_, h2⟩)
    cases e <;> exact h1

/-- what is still to be done -/
inductive It where
  | reg (l : List Stp)
  | regD (l : List Stp)
  | code (c : CC)
  | inB (id : Nat)

/-- what must hold where something ends so, ahead of what is still to be done -/
noncomputable def postW (P : Program) (E : FuncId → List AV → Heap → RC) (N : Nat) (H0 : Heap) : List It → (Ex → Tr AV → Heap → Prop) → Ex → Tr AV → Heap → Prop
  | [], Q, e, T, H => Q e T H
  | .code c :: k, Q, .norm, T, H => wpc P E N H0 c T H (postW P E N H0 k Q)
  | .reg l :: k, Q, .norm, T, H => Stp.goes P l T H fun T H => postW P E N H0 k Q .norm T H
  | .regD l :: k, Q, .norm, T, H => Stp.goesD P E eqvC l T H fun T H => postW P E N H0 k Q .norm T H
  | .inB _ :: k, Q, .norm, T, H => postW P E N H0 k Q .norm T H
  | .inB id :: k, Q, .exit n, T, H => if n = id then postW P E N H0 k Q .norm T H else postW P E N H0 k Q (.exit n) T H
  | _ :: k, Q, e, T, H => postW P E N H0 k Q e T H
/-- all that is still to be done does what is wanted -/
noncomputable def WW (P : Program) (E : FuncId → List AV → Heap → RC) (N : Nat) (H0 : Heap) (k : List It) (T : Tr AV) (H : Heap) (Q : Ex → Tr AV → Heap → Prop) : Prop := postW P E N H0 k Q .norm T H
noncomputable def WX (P : Program) (E : FuncId → List AV → Heap → RC) (N : Nat) (H0 : Heap) (n : Nat) (k : List It) (T : Tr AV) (H : Heap) (Q : Ex → Tr AV → Heap → Prop) : Prop := postW P E N H0 k Q (.exit n) T H
/-- a loop, what is to be done behind it -/
noncomputable def LL (P : Program) (E : FuncId → List AV → Heap → RC) (N : Nat) (H0 : Heap) (x : CC) (k : List It) (T : Tr AV) (H : Heap) (Q : Ex → Tr AV → Heap → Prop) : Prop := TriC P N H0 (.loop x) T H (postW P E N H0 k Q)
/-- a slot filled, or none -/
noncomputable def putD (T : Tr AV) (d : Option K) (v : AV) : Tr AV := putT T d v fun T => T
theorem putD_eq {β : Type} (T : Tr AV) (d : Option K) (v : AV) (c : Tr AV → β) : putT T d v c = c (putD T d v) := by
  cases d with
  | none => rfl
  | some k => show T.setC k (some v) c = c (T.setC k (some v) fun T => T); rw [Tr.setC_eq, Tr.setC_eq]
/-- a call, what is to be done behind it -/
noncomputable def CL (P : Program) (E : FuncId → List AV → Heap → RC) (N : Nat) (H0 : Heap) (f : FuncId) (args : List AV) (d : Option K) (k : List It) (T : Tr AV) (H : Heap) (Q : Ex → Tr AV → Heap → Prop) : Prop :=
  FnOk P f args H fun v G => WW P E N H0 k (putD T d v) G Q
/-- what an operation comes to, what is to be done behind it -/
noncomputable def RW (P : Program) (E : FuncId → List AV → Heap → RC) (N : Nat) (H0 : Heap) (r : R1) (d : Option K) (k : List It) (T : Tr AV) (H : Heap) (Q : Ex → Tr AV → Heap → Prop) : Prop := match r with
  | .fail => False
  | .val v G => WW P E N H0 k (putD T d v) G Q
  | .call f args => CL P E N H0 f args d k T H Q
/-- looked at again -/
noncomputable def AW (P : Program) (E : FuncId → List AV → Heap → RC) (N : Nat) (H0 : Heap) (re : List Rk) (k : List It) (T : Tr AV) (H : Heap) (Q : Ex → Tr AV → Heap → Prop) : Prop := reC eqvC T H re False (WW P E N H0 k T H Q)
noncomputable def RD (P : Program) (E : FuncId → List AV → Heap → RC) (N : Nat) (H0 : Heap) (r : R1) (d : Option K) (re : List Rk) (k : List It) (T : Tr AV) (H : Heap) (Q : Ex → Tr AV → Heap → Prop) : Prop := match r with
  | .fail => False
  | .val v G => AW P E N H0 re k (putD T d v) G Q
  | .call f args => match E f args H with | .fail => False | .ok v G => AW P E N H0 re k (putD T d v) G Q

section
variable {E : FuncId → List AV → Heap → RC} {N : Nat} {H0 : Heap} {k : List It} {Q : Ex → Tr AV → Heap → Prop}
theorem WW_nil : WW P E N H0 [] T H Q = Q .norm T H := nrf rfl
theorem WW_inB (id : Nat) : WW P E N H0 (.inB id :: k) T H Q = WW P E N H0 k T H Q := nrf rfl
theorem WW_skip : WW P E N H0 (.code .skip :: k) T H Q = WW P E N H0 k T H Q := nrf rfl
theorem WW_exit (n : Nat) : WW P E N H0 (.code (.exit n) :: k) T H Q = WX P E N H0 n k T H Q := nrf rfl
theorem WW_region (l : List Stp) : WW P E N H0 (.code (.region l) :: k) T H Q = WW P E N H0 (.reg l :: k) T H Q := nrf rfl
theorem WW_regionD (l : List Stp) : WW P E N H0 (.code (.regionD l) :: k) T H Q = WW P E N H0 (.regD l :: k) T H Q := nrf rfl
theorem WW_loop (x : CC) : WW P E N H0 (.code (.loop x) :: k) T H Q = LL P E N H0 x k T H Q := nrf rfl
theorem WW_cond (c : X) (x y : CC) : WW P E N H0 (.code (.cond c x y) :: k) T H Q = condP (evX T c) (WW P E N H0 (.code x :: k) T H Q) (WW P E N H0 (.code y :: k) T H Q) := nrf rfl
theorem WW_seq (x y : CC) : WW P E N H0 (.code (.seq x y) :: k) T H Q = WW P E N H0 (.code x :: .code y :: k) T H Q := by
  show wpc P E N H0 x T H (behind (fun T H => wpc P E N H0 y T H (postW P E N H0 k Q)) (postW P E N H0 k Q)) = wpc P E N H0 x T H (postW P E N H0 (.code y :: k) Q)
  congr 1
  funext e T H
  cases e <;> rfl
theorem WW_block (id : Nat) (x : CC) : WW P E N H0 (.code (.block id x) :: k) T H Q = WW P E N H0 (.code x :: .inB id :: k) T H Q := by
  show wpc P E N H0 x T H (outOf id (postW P E N H0 k Q)) = wpc P E N H0 x T H (postW P E N H0 (.inB id :: k) Q)
  congr 1
  funext e T H
  cases e <;> rfl
theorem WX_nil (n : Nat) : WX P E N H0 n [] T H Q = Q (.exit n) T H := nrf rfl
theorem WX_inB (n id : Nat) : WX P E N H0 n (.inB id :: k) T H Q = if n = id then WW P E N H0 k T H Q else WX P E N H0 n k T H Q := nrf rfl
theorem WX_code (n : Nat) (c : CC) : WX P E N H0 n (.code c :: k) T H Q = WX P E N H0 n k T H Q := nrf rfl
theorem WX_reg (n : Nat) (l) : WX P E N H0 n (.reg l :: k) T H Q = WX P E N H0 n k T H Q := nrf rfl
theorem WX_regD (n : Nat) (l) : WX P E N H0 n (.regD l :: k) T H Q = WX P E N H0 n k T H Q := nrf rfl
theorem postW_ret : ∀ (k : List It), postW P E N H0 k Q .ret T H = Q .ret T H
  | [] => rfl
  | .code _ :: k => postW_ret k
  | .reg _ :: k => postW_ret k
  | .regD _ :: k => postW_ret k
  | .inB _ :: k => postW_ret k
theorem WW_ret : WW P E N H0 (.code .ret :: k) T H Q = Q .ret T H := postW_ret k
theorem WW_reg_nil : WW P E N H0 (.reg [] :: k) T H Q = WW P E N H0 k T H Q := nrf rfl
theorem WW_regD_nil : WW P E N H0 (.regD [] :: k) T H Q = WW P E N H0 k T H Q := nrf rfl
theorem WW_reg (g dst gd re l) : WW P E N H0 (.reg (.mk g dst gd re :: l) :: k) T H Q = gdC T gd False (RW P E N H0 (g T H) dst (.reg l :: k) T H Q) (WW P E N H0 (.reg l :: k) (putD T dst (.tup [])) H Q) := by
  show gdC T gd False ((g T H).go P H fun v G => putT T dst v fun T => Stp.goes P l T G fun T H => postW P E N H0 k Q .norm T H) (putT T dst (.tup []) fun T => Stp.goes P l T H fun T H => postW P E N H0 k Q .norm T H) = _
  rw [putD_eq]
  congr 1
  cases g T H with
  | fail => rfl
  | val v G => exact putD_eq T dst v fun T => WW P E N H0 (.reg l :: k) T G Q
  | call f args =>
    show FnOk P f args H (fun v G => putT T dst v fun T => Stp.goes P l T G fun T H => postW P E N H0 k Q .norm T H) = FnOk P f args H fun v G => WW P E N H0 (.reg l :: k) (putD T dst v) G Q
    congr 1
    funext v G
    exact putD_eq T dst v fun T => WW P E N H0 (.reg l :: k) T G Q
theorem WW_regD (g dst gd re l) : WW P E N H0 (.regD (.mk g dst gd re :: l) :: k) T H Q = gdC T gd False (RD P E N H0 (g T H) dst re (.regD l :: k) T H Q) (WW P E N H0 (.regD l :: k) (putD T dst (.tup [])) H Q) := by
  show gdC T gd False (match g T H with
      | .fail => False
      | .val v G => putT T dst v fun T => reC eqvC T G re False (Stp.goesD P E eqvC l T G fun T H => postW P E N H0 k Q .norm T H)
      | .call f args => match E f args H with | .fail => False | .ok v G => putT T dst v fun T => reC eqvC T G re False (Stp.goesD P E eqvC l T G fun T H => postW P E N H0 k Q .norm T H))
    (putT T dst (.tup []) fun T => Stp.goesD P E eqvC l T H fun T H => postW P E N H0 k Q .norm T H) = _
  rw [putD_eq]
  congr 1
  cases g T H with
  | fail => rfl
  | val v G => exact putD_eq T dst v fun T => AW P E N H0 re (.regD l :: k) T G Q
  | call f args =>
    show (match E f args H with | .fail => False | .ok v G => putT T dst v fun T => reC eqvC T G re False (Stp.goesD P E eqvC l T G fun T H => postW P E N H0 k Q .norm T H)) = (match E f args H with | .fail => False | .ok v G => AW P E N H0 re (.regD l :: k) (putD T dst v) G Q)
    cases E f args H with
    | fail => rfl
    | ok v G => exact putD_eq T dst v fun T => AW P E N H0 re (.regD l :: k) T G Q

theorem CL.of {f : FuncId} {args : List AV} {d : Option K} {R : AV → Heap → Prop} (h : FnOk P f args H R) (hr : ∀ v G, R v G → WW P E N H0 k (putD T d v) G Q) : CL P E N H0 f args d k T H Q := h.mono hr
/-- a loop: what holds at its head, so many rounds at most being left -/
theorem LL.of {x : CC} (hE : Good P E) (I : Nat → Tr AV → Heap → Prop) (h : ∀ m T H, I m T H → WW P E N H0 [.code x] T H (behind (fun T H => ∃ m', m' < m ∧ I m' T H) (postW P E N H0 k Q))) {m : Nat} (hi : I m T H) : LL P E N H0 x k T H Q :=
  TriC.loop I (fun m T H hi => wpc_ok hE x T H _ (h m T H hi)) hi
/-- a round's end: the state is seen with fewer blocks; what held at the head holds again -/
def Round (H0 : Heap) (I : Nat → Tr AV → Heap → Prop) (m : Nat) (T : Tr AV) (G : Heap) : Prop := ∃ l ts l2 σ, G = H0.ext l ∧ Wk H0 T l ts l2 σ ∧ ∃ m', m' < m ∧ I m' (trOf ts) (H0.ext l2)
theorem LL.ofR {x : CC} (hE : Good P E) (I : Nat → Tr AV → Heap → Prop) (h : ∀ m T H, I m T H → WW P E N H0 [.code x] T H (behind (Round H0 I m) (postW P E N H0 k Q))) {m : Nat} (hi : I m T H) : LL P E N H0 x k T H Q :=
  TriC.loop I (fun m T H hi => TriC.kept ((wpc_ok hE x T H _ (h m T H hi)).mono fun e T G q => by
    cases e with
    | norm => obtain ⟨l, ts, l2, σ, h1, h2, h3⟩ := q; exact .inr ⟨l, ts, l2, σ, h1, h2, h3⟩
    | exit n => exact .inl q
    | ret => exact .inl q)) hi
theorem LL.wk {x : CC} {l l2 : List Blk} {ts : List (K × AV)} {σ : List Nat} (hk : Wk H0 T l ts l2 σ) (h : LL P E N H0 x k (trOf ts) (H0.ext l2) Q) : LL P E N H0 x k T (H0.ext l) Q := TriC.wk hk h
/-- what isn't needed any more is let go ahead of what is still to be done -/
theorem TriC.of_WW (hE : Good P E) {c : CC} (h : WW P E N H0 [.code c] T H Q) : TriC P N H0 c T H Q := wpc_ok hE c T H Q h
end

theorem FnOk.of_WW {f : FuncId} {fn : Func} {c : CC} {N : Nat} {ks : List RK} {args : List AV} {Q : AV → Heap → Prop} (hf : P.funcs[f]? = some fn) (hN : fn.ntmps = N) (hc : (match fn.body with | some code => comp P N code | none => none) = some c)
    (hk : resKs P fn.results.toList = some ks) (E : FuncId → List AV → Heap → RC) (hE : Good P E) (h : WW P E N H [.code c] (argsC args .z .lf fun T => T) (H.ext []) fun e T' H' => e.over ∧ getsC T' H' ks False fun vs => Q (packC vs) H') : FnOk P f args H Q :=
  .of_comp hf hN hc hk (wpc_ok hE c _ _ _ h)

end Go.Ev
