/- part. -/
import Derived.Test.YtglpihajimhekaaGreatDoorZ9
set_option linter.all false
namespace Go.Ev
variable {P : Program} {φ : Phi} {H : Heap} {w u : World} {T : Tr AV} {a : Act}
def GdYes (T : Tr AV) (gd : Gd) : Prop := ∀ {β : Type} (f yes no : β), gdC T gd f yes no = yes
def GdNo (T : Tr AV) (gd : Gd) : Prop := ∀ {β : Type} (f yes no : β), gdC T gd f yes no = no
theorem stepR_cases {eqv : AV → AV → Bool} {E : FuncId → List AV → Heap → RC} {g : Clo} {dst : Option K} {gd : Gd} {re : List Rk} {T' : Tr AV} {H' : Heap}
  (h : stepR eqv E (.mk g dst gd re) T H = some (T', H')) :
  (GdYes T gd ∧ ∃ v, putS T dst v T' ∧ (g T H = .val v H' ∨ ∃ fn args, g T H = .call fn args ∧ E fn args H = .ok v H') ∧ ∀ r ∈ re, Seen eqv T' H' r) ∨ (GdNo T gd ∧ putS T dst (.tup []) T' ∧ H' = H) := by
 have hrw : stepR eqv E (.mk g dst gd re) T H = gdC T gd none
  (R1.rec (motive := fun _ => Option (Tr AV × Heap)) none (fun v G => putT T dst v fun T => reC eqv T G re none (some (T, G))) (fun fn args => RC.rec (motive := fun _ => Option (Tr AV × Heap)) none (fun v G => putT T dst v fun T => reC eqv T G re none (some (T, G))) (E fn args H)) (g T H))
  (putT T dst (.tup []) fun T => some (T, H)) := rfl
 rw [hrw] at h
 have fin : ∀ {v : AV} {G : Heap}, putT T dst v (fun T => reC eqv T G re none (some (T, G))) = some (T', H') → putS T dst v T' ∧ G = H' ∧ ∀ r ∈ re, Seen eqv T' H' r := by
  intro v G h
  obtain ⟨T1, hp, e1⟩ := putT_sel T dst v
  rw [e1] at h
  rcases reC_sel eqv T1 G re with h2 | ⟨hs, h2⟩
  ·rw [h2] at h; cases h
  ·rw [h2] at h; cases h; exact ⟨hp, rfl, hs⟩
 rcases gdC_sel T gd with h1 | h1 | h1
 ·rw [h1] at h; cases h
 ·rw [h1] at h
  refine .inl ⟨h1, ?_⟩
  cases hg : g T H with
  | fail => rw [hg] at h; cases h
  | val v G =>
   rw [hg] at h
   obtain ⟨hp, rfl, hs⟩ := fin h
   exact ⟨v, hp, .inl rfl, hs⟩
  | call fn args =>
   rw [hg] at h
   have h : RC.rec (motive := fun _ => Option (Tr AV × Heap)) none (fun v G => putT T dst v fun T => reC eqv T G re none (some (T, G))) (E fn args H) = some (T', H') := h
   cases hE : E fn args H with
   | fail => rw [hE] at h; cases h
   | ok v G =>
    rw [hE] at h
    obtain ⟨hp, rfl, hs⟩ := fin h
    exact ⟨v, hp, .inr ⟨fn, args, rfl, hE⟩, hs⟩
 ·rw [h1] at h
  obtain ⟨T1, hp, e1⟩ := putT_sel T dst (.tup [])
  rw [e1] at h; cases h
  exact .inr ⟨h1, hp, rfl⟩
def predsOf (o : Oper) : List Nat := o.after.toList.filterMap fun e => bif Region.binds .any e then some e.on else none
theorem mem_predsOf {o : Oper} {j : Nat} : j ∈ predsOf o ↔ ∃ e ∈ o.after, Region.binds .any e = true ∧ e.on = j := by
 unfold predsOf
 rw [List.mem_filterMap]
 constructor
 ·rintro ⟨e, he, h⟩
  cases hb : Region.binds .any e
  ·rw [hb] at h; cases h
  ·rw [hb] at h; simp only [cond_true, Option.some.injEq] at h
   exact ⟨e, by simpa using he, hb, h⟩
 ·rintro ⟨e, he, hb, h⟩
  exact ⟨e, by simpa using he, by rw [hb]; simp [h]⟩
inductive Anc (ops : Array Oper) : Nat → Nat → Prop
 | one {i j : Nat} {o : Oper} (ho : ops[i]? = some o) (h : j ∈ predsOf o) : Anc ops i j
 | more {i p j : Nat} {o : Oper} (ho : ops[i]? = some o) (h : p ∈ predsOf o) (hr : Anc ops p j) : Anc ops i j
def lst (L : Array Bool) (i : Nat) : Prop := L.getD i false = true
theorem Anc.listed {ops : Array Oper} {L : Array Bool} (hd : ∀ i o, ops[i]? = some o → lst L i → ∀ p ∈ predsOf o, lst L p) {i j : Nat} (h : Anc ops i j) :
  (∀ o, ops[i]? = some o → ∀ p ∈ predsOf o, lst L p) → lst L j := by
 induction h with
 | one ho h => intro hp; exact hp _ ho _ h
 | more ho h hr ih => intro hp; exact ih fun o ho' p hp' => hd _ o ho' (hp _ ho _ h) p hp'
def loudO (o : Oper) : Bool := !(quietOp o.op) && !(allocOp o.op)
def readsOf (ops : Array Oper) (o : Oper) : List Nat := gdTmp ops o ++ tmpsOf o.op.operands.toList
noncomputable def keepH (g : Clo) : Clo := fun T H => R1.rec (motive := fun _ => R1) .fail (fun v _ => .val v H) (fun _ _ => .fail) (g T H)
noncomputable def addH (g : Clo) : Clo := fun T H => R1.rec (motive := fun _ => R1) .fail (fun v G => Option.rec (motive := fun _ => R1) .fail (fun b => H.addC b fun _ G => .val v G) (G.get H.nx)) (fun _ _ => .fail) (g T H)
noncomputable def cloD (o : Oper) (g : Clo) : Clo := bif' (quietOp o.op) (keepH g) (bif' (allocOp o.op) (addH g) g)
theorem keepH_val {g : Clo} {v : AV} {G : Heap} (h : keepH g T H = .val v G) : G = H ∧ ∃ G', g T H = .val v G' := by
 unfold keepH at h
 cases hg : g T H with
 | fail => rw [hg] at h; cases h
 | call _ _ => rw [hg] at h; cases h
 | val v' G' => rw [hg] at h; cases h; exact ⟨rfl, G', rfl⟩
theorem keepH_call {g : Clo} {f : FuncId} {l : List AV} (h : keepH g T H = .call f l) : False := by
 unfold keepH at h
 cases hg : g T H <;> rw [hg] at h <;> cases h
theorem addH_val {g : Clo} {v : AV} {G : Heap} (h : addH g T H = .val v G) : ∃ G' b, g T H = .val v G' ∧ G'.get H.nx = some b ∧ G = H.add b := by
 unfold addH at h
 cases hg : g T H with
 | fail => rw [hg] at h; cases h
 | call _ _ => rw [hg] at h; cases h
 | val v' G' =>
  rw [hg] at h
  have h : Option.rec (motive := fun _ => R1) .fail (fun b => H.addC b fun _ G => .val v' G) (G'.get H.nx) = .val v G := h
  cases hb : G'.get H.nx with
  | none => rw [hb] at h; cases h
  | some b =>
   rw [hb] at h
   have h : H.addC b (fun _ G => R1.val v' G) = .val v G := h
   rw [Heap.addC_eq] at h
   cases h
   exact ⟨G', b, rfl, hb, rfl⟩
theorem addH_call {g : Clo} {f : FuncId} {l : List AV} (h : addH g T H = .call f l) : False := by
 unfold addH at h
 cases hg : g T H with
 | fail => rw [hg] at h; cases h
 | call _ _ => rw [hg] at h; cases h
 | val v' G' =>
  rw [hg] at h
  have h : Option.rec (motive := fun _ => R1) .fail (fun b => H.addC b fun _ G => .val v' G) (G'.get H.nx) = .call f l := h
  cases hb : G'.get H.nx with
  | none => rw [hb] at h; cases h
  | some b => rw [hb] at h; have h : H.addC b (fun _ G => R1.val v' G) = .call f l := h; rw [Heap.addC_eq] at h; cases h
theorem hid_add (hw : WRel P φ H w) (b : Blk) : WRel P φ (H.add b) w ∧ Ext φ H w φ (H.add b) w := by
 have hs : H.nx.toNat < (H.add b).nx.toNat := K.lt_succ _
 have hn := hw.nx_none
 refine WRel.pack hw ⟨fun k x hk => Nat.lt_trans (hw.dom k x hk) hs, ?_, ?_, ?_, hw.size⟩ ⟨fun _ _ => rfl, Nat.le_of_lt hs, Nat.le_refl _, fun _ _ _ => rfl, ?_, ?_, rfl, rfl, rfl⟩
 ·intro k c hk
  rw [Heap.get_add] at hk
  split at hk
  ·rename_i e; subst e; exact hs
  ·exact Nat.lt_trans (hw.top k c hk) hs
 ·intro k c x hk hx
  rw [Heap.get_add] at hk
  split at hk
  ·rename_i e; subst e; rw [hn] at hx; cases hx
  ·exact hw.blk k c x hk hx
 ·intro i j c d x y hij hi hj hx hy hc hd hxy
  rw [Heap.get_add] at hi hj
  split at hi
  ·rename_i e; subst e; rw [hn] at hx; cases hx
  ·split at hj
   ·rename_i e; subst e; rw [hn] at hy; cases hy
   ·exact hw.inj i j c d x y hij hi hj hx hy hc hd hxy
 ·intro k hk _
  rw [Heap.get_add, if_neg]
  intro e; subst e; exact Nat.lt_irrefl _ hk
 ·rintro b' _ ⟨k, c, x, hk, hc, hx, e⟩
  rw [Heap.get_add] at hk
  split at hk
  ·rename_i e2; subst e2; rw [hn] at hx; cases hx
  ·exact ⟨k, c, x, hk, hc, hx, e⟩
theorem unhide {φ0 : Phi} {H0 : Heap} {w0 : World} (hw : WRel P φ H w) (he : Ext φ0 H0 w0 φ H w) {k : K} (hk : φ k = none) (hlt : k.toNat < H.nx.toNat) (h0 : H0.nx.toNat ≤ k.toNat)
  {b : Blk} {o : Obj} {n : Nat} (hb : H.get k = some b) (hrel : BlkRel P (φ.put k ⟨w.heap.size, 0, n⟩) { w with heap := w.heap.push o } ⟨w.heap.size, 0, n⟩ b) :
  WRel P (φ.put k ⟨w.heap.size, 0, n⟩) H { w with heap := w.heap.push o } ∧ Ext φ0 H0 w0 (φ.put k ⟨w.heap.size, 0, n⟩) H { w with heap := w.heap.push o } := by
 have hle := Phi.put_le φ k ⟨w.heap.size, 0, n⟩ hk
 have hold : ∀ x, x < w.heap.size → (w.heap.push o)[x]? = w.heap[x]? := fun x hx => by rw [Array.getElem?_push, if_neg (by omega)]
 have hput : ∀ j x, j ≠ k → φ.put k ⟨w.heap.size, 0, n⟩ j = some x → φ j = some x := by
  intro j x hj hx
  unfold Phi.put at hx
  rwa [if_neg hj] at hx
 have hrom : RomAt (φ.put k ⟨w.heap.size, 0, n⟩) H { w with heap := w.heap.push o } := by
  intro g v hm
  obtain ⟨r1, r2⟩ := hw.rom g v hm
  have hlt := cell_in r1
  refine ⟨?_, ?_⟩
  ·unfold World.cell? at r1 ⊢
   show (match (w.heap.push o)[g]? with | some (.cells c _ _) => _ | _ => _) = _
   rw [hold g hlt]; exact r1
  ·rintro ⟨j, c, y, hj, hc, hy, e⟩
   by_cases e1 : j = k
   ·subst e1; rw [Phi.put_same] at hy; cases hy
    simp only at e; omega
   ·exact r2 ⟨j, c, y, hj, hc, hput j y e1 hy, e⟩
 refine ⟨⟨⟨?_, hw.top, ?_, ?_, ?_⟩, hrom⟩, ⟨?_, he.nx, Nat.le_trans he.size (by simp), ?_, ?_, ?_, he.os, he.tape, he.output⟩⟩
 ·intro j x hx
  by_cases e : j = k
  ·subst e; exact hlt
  ·exact hw.dom j x (hput j x e hx)
 ·intro j c x hj hx
  by_cases e1 : j = k
  ·subst e1
   rw [Phi.put_same] at hx; simp only [Option.some.injEq] at hx; subst hx
   rw [hb] at hj; simp only [Option.some.injEq] at hj; subst hj
   exact hrel
  ·have hx' := hput j x e1 hx
   exact BlkRel.congr (w := w) (hold _ (hw.size j x hx')) ((hw.blk j c x hj hx').mono hle)
 ·intro i j c d x y hij hi hj hx hy hc hd hxy
  by_cases e1 : i = k
  ·by_cases e2 : j = k
   ·exact absurd (e1.trans e2.symm) hij
   ·subst e1
    rw [Phi.put_same] at hx; simp only [Option.some.injEq] at hx; subst hx
    have := hw.size j y (hput j y e2 hy)
    simp only at hxy; omega
  ·by_cases e2 : j = k
   ·subst e2
    rw [Phi.put_same] at hy; simp only [Option.some.injEq] at hy; subst hy
    have := hw.size i x (hput i x e1 hx)
    simp only at hxy; omega
   ·exact hw.inj i j c d x y hij hi hj (hput i x e1 hx) (hput j y e2 hy) hc hd hxy
 ·intro j x hx
  by_cases e : j = k
  ·subst e; rw [Phi.put_same] at hx; simp only [Option.some.injEq] at hx; subst hx; simp
  ·have := hw.size j x (hput j x e hx); simp; omega
 ·intro j hj
  unfold Phi.put
  rw [if_neg]
  ·exact he.phi j hj
  ·intro e; subst e; omega
 ·intro x hx ho
  show (w.heap.push _)[x]? = _
  rw [hold x (Nat.lt_of_lt_of_le hx he.size)]
  exact he.keeps x hx ho
 ·exact he.hidden
 ·rintro x hx ⟨j, c, y, hj, hc, hy, e⟩
  by_cases e1 : j = k
  ·subst e1; rw [Phi.put_same] at hy; simp only [Option.some.injEq] at hy; subst hy
   have := he.size
   simp only at e; omega
  ·exact he.own x hx ⟨j, c, y, hj, hc, hput j y e1 hy, e⟩
def Again (P : Program) (ops : Array Oper) (done : List Nat) (re : List Rk) (d : Nat) (o : Oper) : Prop :=
 (∃ g gd, cop P o = some g ∧ gdOf ops o = some gd ∧ Rk.mk g (o.dst.map keyOf) gd ∈ re) ∧ ∀ j ∈ done, ∀ oj t, ops[j]? = some oj → oj.dst = some t → t ∈ readsOf ops o → Anc ops d j
inductive Plan (P : Program) (ops : Array Oper) : List Nat → List Nat → List Stp → Prop
 | nil {done : List Nat} : Plan P ops done [] []
 | cons {done rest : List Nat} {sts : List Stp} {y : Nat} {o : Oper} {g : Clo} {gd : Gd} {re : List Rk} (ho : ops[y]? = some o) (hg : cop P o = some g) (hgd : gdOf ops o = some gd)
   (hnew : y ∉ done) (hanc : ∀ j, Anc ops y j → j ∈ done)
   (hloud : ∀ x ∈ done, ∀ ox, ops[x]? = some ox → loudO ox = true → Anc ops y x)
   (hre : quietOp o.op = false → ∀ d ∈ done, ∀ od, ops[d]? = some od → quietOp od.op = true → (loudO o = true ∧ Anc ops y d) ∨ (∃ l ∈ done, ∃ ol, ops[l]? = some ol ∧ loudO ol = true ∧ Anc ops l d) ∨ Again P ops (y :: done) re d od)
   (hrest : Plan P ops (y :: done) rest sts) : Plan P ops done (y :: rest) (.mk (cloD o g) (o.dst.map keyOf) gd re :: sts)
structure Fixed (ops : Array Oper) (N : Nat) : Prop where
 dst : ∀ (i j : Nat) (oi oj : Oper) (t : Nat), ops[i]? = some oi → ops[j]? = some oj → oi.dst = some t → oj.dst = some t → i = j
 rw : ∀ (i j : Nat) (oi oj : Oper) (t : Nat), ops[i]? = some oi → ops[j]? = some oj → oi.dst = some t → t ∈ readsOf ops oj → Anc ops j i ∨ Anc ops i j
 top : ∀ (i : Nat) (o : Oper) (t : Nat), ops[i]? = some o → o.dst = some t → t < N
theorem Plan.loud {ops : Array Oper} {done rest : List Nat} {sts : List Stp} (h : Plan P ops done rest sts) : ∀ i ∈ rest, ∀ x ∈ done, ∀ ox, ops[x]? = some ox → loudO ox = true → Anc ops i x := by
 induction h with
 | nil => intro i hi; simp at hi
 | cons ho hg hgd hnew hanc hloud hre hrest ih =>
  intro i hi x hx ox hox hl
  rcases List.mem_cons.1 hi with rfl | hi
  ·exact hloud x hx ox hox hl
  ·exact ih i hi x (List.mem_cons_of_mem _ hx) ox hox hl
def Rel1 (P : Program) (φ : Phi) (a : Act) (t : Nat) (v : AV) : Prop := ∃ v', a.tmps[t]? = some v' ∧ VRel P φ v v'
def Has (T : Tr AV) (dst : Option Tmp) (v : AV) : Prop := ∀ t, dst = some t → T.get (keyOf t) = some v
def Reads (P : Program) (ops : Array Oper) (L : Array Bool) (done : List Nat) (φ : Phi) (T T0 : Tr AV) (a : Act) (d : Nat) (o : Oper) : Prop :=
 ∀ t ∈ readsOf ops o, ∀ v, T0.get (keyOf t) = some v →
  (∀ x ∈ done, Anc ops d x → ∀ ox, ops[x]? = some ox → ox.dst = some t → T.get (keyOf t) = some v) ∧
  ((∃ x ox, x ∈ done ∧ ¬ lst L x ∧ Anc ops d x ∧ ops[x]? = some ox ∧ ox.dst = some t) ∨ Rel1 P φ a t v)
def Comes (φ : Phi) (H : Heap) (nx0 : K) (T T0 : Tr AV) (key : Option K) (o : Oper) (g : Clo) (gd : Gd) : Prop :=
  (GdNo T0 gd ∧ Has T o.dst (.tup [])) ∨
  (GdYes T0 gd ∧ ∃ v, Has T o.dst v ∧
    ((quietOp o.op = true ∧ ∃ G, g T0 H = .val v G) ∨
     (quietOp o.op = false ∧ allocOp o.op = true ∧ ∃ H1 G k, g T0 H1 = .val v G ∧ H1.nx = k ∧ key = some k ∧ H.get k = G.get k ∧ φ k = none ∧ k.toNat < H.nx.toNat ∧ nx0.toNat ≤ k.toNat)))
def Rdy (P : Program) (ops : Array Oper) (L : Array Bool) (done : List Nat) (φ : Phi) (H : Heap) (nx0 : K) (T : Tr AV) (a : Act) (key : Nat → Option K) (d : Nat) : Prop :=
 ∃ o g gd T0, ops[d]? = some o ∧ cop P o = some g ∧ gdOf ops o = some gd ∧ loudO o = false ∧ Reads P ops L done φ T T0 a d o ∧ Comes φ H nx0 T T0 (key d) o g gd
structure Inv (P : Program) (ops : Array Oper) (N : Nat) (φ0 : Phi) (H0 : Heap) (w0 : World) (L : Array Bool) (done : List Nat) (T : Tr AV) (H : Heap) (φ : Phi) (a : Act) (w : World) (key : Nat → Option K) : Prop where
 sz : L.size = ops.size
 down : ∀ i o, ops[i]? = some o → lst L i → ∀ p ∈ predsOf o, lst L p
 sub : ∀ i, lst L i → i ∈ done
 anc : ∀ i ∈ done, ∀ j, Anc ops i j → j ∈ done
 loud : ∀ i ∈ done, ∀ o, ops[i]? = some o → loudO o = true → lst L i
 rdy : ∀ d ∈ done, ¬ lst L d → Rdy P ops L done φ H H0.nx T a key d
 keys : ∀ d ∈ done, ∀ d' ∈ done, ¬ lst L d → ¬ lst L d' → ∀ k, key d = some k → key d' = some k → d = d'
 klt : ∀ d ∈ done, ∀ k, key d = some k → k.toNat < H.nx.toNat
 size : N ≤ a.tmps.size
 rel : ∀ t v, T.get (keyOf t) = some v → (∃ d o, d ∈ done ∧ ¬ lst L d ∧ ops[d]? = some o ∧ o.dst = some t) ∨ Rel1 P φ a t v
 hw : WRel P φ H w
 he : Ext φ0 H0 w0 φ H w
 defers : a.defers = []
def upd (key : Nat → Option K) (y : Nat) (k : Option K) : Nat → Option K := fun j => if j = y then k else key j
theorem upd_same (key : Nat → Option K) (y : Nat) (k : Option K) : upd key y k y = k := if_pos rfl
theorem upd_ne (key : Nat → Option K) {y j : Nat} (k : Option K) (h : j ≠ y) : upd key y k j = key j := if_neg h
theorem putS_ne {dst : Option Tmp} {v : AV} {T' : Tr AV} (h : putS T (dst.map keyOf) v T') {t : Nat} (hn : dst ≠ some t) : T'.get (keyOf t) = T.get (keyOf t) := by
 rw [h, if_neg]
 intro e
 cases dst with
 | none => cases e
 | some d =>
  simp only [Option.map_some, Option.some.injEq] at e
  exact hn (by rw [keyOf_inj e])
theorem putS_same {dst : Option Tmp} {v : AV} {T' : Tr AV} (h : putS T (dst.map keyOf) v T') : Has T' dst v := by
 intro t e
 subst e
 rw [h, if_pos (by simp)]
theorem Has.keep {dst : Option Tmp} {v v1 : AV} {T' : Tr AV} {dst1 : Option Tmp} (h : Has T dst v) (hp : putS T (dst1.map keyOf) v1 T') (hn : ∀ t, dst = some t → dst1 ≠ some t) : Has T' dst v := by
 intro t e
 rw [putS_ne hp (hn t e)]
 exact h t e
section
variable {ops : Array Oper} {N : Nat} {φ0 : Phi} {H0 : Heap} {w0 : World} {L : Array Bool} {done : List Nat} {key : Nat → Option K} {Q : Exit → Act → World → Prop}
theorem Reads.advance {T0 T' : Tr AV} {d : Nat} {o : Oper} (hst : Fixed ops N) (hd : d ∈ done) (hanc : ∀ i ∈ done, ∀ j, Anc ops i j → j ∈ done) {y : Nat} {oy : Oper} (hy : ops[y]? = some oy) (hnew : y ∉ done) {v1 : AV} (hp : putS T (oy.dst.map keyOf) v1 T')
  (h : Reads P ops L done φ T T0 a d o) : Reads P ops L (y :: done) φ T' T0 a d o := by
 intro t ht v hv
 obtain ⟨h1, h2⟩ := h t ht v hv
 refine ⟨fun x hx hax ox hox hdx => ?_, ?_⟩
 ·have hx' : x ∈ done := hanc d hd x hax
  have hne : oy.dst ≠ some t := fun e => by
   have := hst.dst y x oy ox t hy hox e hdx
   subst this; exact hnew hx'
  rw [putS_ne hp hne]
  exact h1 x hx' hax ox hox hdx
 ·rcases h2 with ⟨x, ox, hx, hl, hax, hox, hdx⟩ | h2
  ·exact .inl ⟨x, ox, List.mem_cons_of_mem _ hx, hl, hax, hox, hdx⟩
  ·exact .inr h2
theorem lst_set (L : Array Bool) (d i : Nat) (h : d < L.size) : lst (L.setIfInBounds d true) i ↔ i = d ∨ lst L i := by
 unfold lst
 by_cases e : d = i
 ·subst e
  simp [h]
 ·rw [getD_set_ne false e]
  constructor
  ·exact .inr
  ·rintro (h | h)
   ·exact absurd h.symm e
   ·exact h
theorem Seen.rdy {eqv : AV → AV → Bool} (heq : ∀ a b, eqv a b = true → a = b) {re : List Rk} (hs : ∀ r ∈ re, Seen eqv T H r) {nx0 : K} {d : Nat} {o : Oper} (ho : ops[d]? = some o) (hq : quietOp o.op = true) (ha : Again P ops done re d o)
  (rel : ∀ t v, T.get (keyOf t) = some v → (∃ d o, d ∈ done ∧ ¬ lst L d ∧ ops[d]? = some o ∧ o.dst = some t) ∨ Rel1 P φ a t v) : Rdy P ops L done φ H nx0 T a key d := by
 obtain ⟨⟨g, gd, hg, hgd, hm⟩, hj⟩ := ha
 have hh : ∀ {v : AV}, Holds eqv T (o.dst.map keyOf) v → Has T o.dst v := by
  intro v h t e
  obtain ⟨u, h1, h2⟩ := h (keyOf t) (by rw [e]; rfl)
  rw [heq _ _ h2]; exact h1
 refine ⟨o, g, gd, T, ho, hg, hgd, by simp [loudO, hq], ?_, ?_⟩
 ·intro t ht v hv
  refine ⟨fun _ _ _ _ _ _ => hv, ?_⟩
  rcases rel t v hv with ⟨x, ox, hx, hl, hox, hdx⟩ | h
  ·exact .inl ⟨x, ox, hx, hl, hj x hx ox t hox hdx ht, hox, hdx⟩
  ·exact .inr h
 ·rcases hs _ hm with ⟨h1, v, G, h2, h3⟩ | ⟨h1, h3⟩
  ·exact .inr ⟨h1, v, hh h3, .inl ⟨hq, G, h2⟩⟩
  ·exact .inl ⟨h1, hh h3⟩
theorem Inv.advance {eqv : AV → AV → Bool} (heq : ∀ a b, eqv a b = true → a = b) {E : FuncId → List AV → Heap → RC} (hst : Fixed ops N) (I : Inv P ops N φ0 H0 w0 L done T H φ a w key)
  {y : Nat} {o : Oper} {g : Clo} {gd : Gd} {re : List Rk} (ho : ops[y]? = some o) (hg : cop P o = some g) (hgd : gdOf ops o = some gd)
  (hnew : y ∉ done) (hanc : ∀ j, Anc ops y j → j ∈ done)
  (hre : quietOp o.op = false → ∀ d ∈ done, ∀ od, ops[d]? = some od → quietOp od.op = true → (loudO o = true ∧ Anc ops y d) ∨ (∃ l ∈ done, ∃ ol, ops[l]? = some ol ∧ loudO ol = true ∧ Anc ops l d) ∨ Again P ops (y :: done) re d od)
  (hq : loudO o = false) {T' : Tr AV} {H' : Heap} (h : stepR eqv E (.mk (cloD o g) (o.dst.map keyOf) gd re) T H = some (T', H')) :
  ∃ key', Inv P ops N φ0 H0 w0 L (y :: done) T' H' φ a w key' := by
 have hyl : ¬ lst L y := fun h => hnew (I.sub y h)
 have hself : ¬ Anc ops y y := fun h => hnew (hanc y h)
 have hfacts : ∃ v, putS T (o.dst.map keyOf) v T' ∧ ((H' = H ∧ Comes φ H' H0.nx T' T none o g gd) ∨
   (quietOp o.op = false ∧ (∀ r ∈ re, Seen eqv T' H' r) ∧ ∃ b, H' = H.add b ∧ Comes φ H' H0.nx T' T (some H.nx) o g gd)) := by
  rcases stepR_cases h with ⟨h1, v, hp, h2, hs⟩ | ⟨h1, hp, rfl⟩
  ·refine ⟨v, hp, ?_⟩
   cases hqq : quietOp o.op with
   | true =>
    have hc : cloD o g = keepH g := by unfold cloD; rw [hqq]; rfl
    rw [hc] at h2
    rcases h2 with h2 | ⟨fn, args, h2, _⟩
    ·obtain ⟨rfl, G, h3⟩ := keepH_val h2
     exact .inl ⟨rfl, .inr ⟨h1, v, putS_same hp, .inl ⟨hqq, G, h3⟩⟩⟩
    ·exact absurd h2 (fun h => keepH_call h)
   | false =>
    have hal : allocOp o.op = true := by
     cases ha : allocOp o.op with
     | true => rfl
     | false => simp [loudO, hqq, ha] at hq
    have hc : cloD o g = addH g := by unfold cloD; rw [hqq, hal]; rfl
    rw [hc] at h2
    rcases h2 with h2 | ⟨fn, args, h2, _⟩
    ·obtain ⟨G, b, h3, h4, rfl⟩ := addH_val h2
     refine .inr ⟨rfl, hs, b, rfl, .inr ⟨h1, v, putS_same hp, .inr ⟨hqq, hal, H, G, H.nx, h3, rfl, rfl, ?_, I.hw.nx_none, K.lt_succ _, I.he.nx⟩⟩⟩
     rw [Heap.get_add, if_pos rfl, h4]
    ·exact absurd h2 (fun h => addH_call h)
  ·exact ⟨_, hp, .inl ⟨rfl, .inl ⟨h1, putS_same hp⟩⟩⟩
 obtain ⟨v1, hp, hcase⟩ := hfacts
 have hdst : ∀ d ∈ done, ∀ od, ops[d]? = some od → ∀ t, od.dst = some t → o.dst ≠ some t := by
  intro d hd od hod t ht e
  have := hst.dst y d o od t ho hod e ht
  subst this; exact hnew hd
 have rel : ∀ t v, T'.get (keyOf t) = some v → (∃ d o, d ∈ y :: done ∧ ¬ lst L d ∧ ops[d]? = some o ∧ o.dst = some t) ∨ Rel1 P φ a t v := by
  intro t v hv
  by_cases e : o.dst = some t
  ·exact .inl ⟨y, o, by simp, hyl, ho, e⟩
  ·rw [putS_ne hp e] at hv
   rcases I.rel t v hv with ⟨d, od, hd, hl, hod, hdd⟩ | h
   ·exact .inl ⟨d, od, List.mem_cons_of_mem _ hd, hl, hod, hdd⟩
   ·exact .inr h
 have reads : Reads P ops L (y :: done) φ T' T a y o := by
  intro t ht v hv
  constructor
  ·intro x hx hax ox hox hdx
   rw [putS_ne hp]
   ·exact hv
   ·intro e
    have := hst.dst y x o ox t ho hox e hdx
    subst this; exact hself hax
  ·rcases I.rel t v hv with ⟨d, od, hd, hl, hod, hdd⟩ | h
   ·rcases hst.rw d y od o t hod ho hdd ht with h | h
    ·exact .inl ⟨d, od, List.mem_cons_of_mem _ hd, hl, h, hod, hdd⟩
    ·exact absurd (I.anc d hd y h) hnew
   ·exact .inr h
 have hothers : ∀ (key' : Nat → Option K), (∀ d ∈ done, key' d = key d) → ∀ d ∈ done, ¬ lst L d → Rdy P ops L (y :: done) φ H' H0.nx T' a key' d := by
  intro key' hk d hd hl
  obtain ⟨od, g1, gd1, T0, hod, hg1, hgd1, hld, hr, hc⟩ := I.rdy d hd hl
  have hhas : ∀ {v : AV}, Has T od.dst v → Has T' od.dst v := fun h => h.keep hp (hdst d hd od hod)
  have hr' := hr.advance hst hd I.anc ho hnew hp
  have old : (quietOp od.op = true → H' = H) → (∀ k, k.toNat < H.nx.toNat → H'.get k = H.get k ∧ k.toNat < H'.nx.toNat) → Rdy P ops L (y :: done) φ H' H0.nx T' a key' d := by
   intro hqe hge
   refine ⟨od, g1, gd1, T0, hod, hg1, hgd1, hld, hr', ?_⟩
   rcases hc with ⟨h1, h2⟩ | ⟨h1, v, h2, ⟨h3, G, h4⟩ | ⟨h3, h4, H1, G, k, h5, h6, h7, h8, h9, h10, h11⟩⟩
   ·exact .inl ⟨h1, hhas h2⟩
   ·refine .inr ⟨h1, v, hhas h2, .inl ⟨h3, G, ?_⟩⟩
    rw [hqe h3]; exact h4
   ·exact .inr ⟨h1, v, hhas h2, .inr ⟨h3, h4, H1, G, k, h5, h6, by rw [hk d hd]; exact h7, by rw [(hge k h10).1]; exact h8, h9, (hge k h10).2, h11⟩⟩
  rcases hcase with ⟨rfl, _⟩ | ⟨hqo, hs, b, rfl, _⟩
  ·exact old (fun _ => rfl) fun k hk => ⟨rfl, hk⟩
  ·by_cases hqd : quietOp od.op = true
   ·rcases hre hqo d hd od hod hqd with ⟨h, _⟩ | ⟨l, hl1, ol, hol, hll, hal⟩ | h
    ·rw [hq] at h; cases h
    ·exact absurd (hal.listed I.down fun o' ho' => I.down l o' ho' (I.loud l hl1 ol hol hll)) hl
    ·exact Seen.rdy heq hs hod hqd h rel
   ·refine old (fun h => absurd h hqd) fun k hk => ⟨?_, Nat.lt_trans hk (K.lt_succ _)⟩
    rw [Heap.get_add, if_neg]
    intro e; subst e; exact Nat.lt_irrefl _ hk
 have hne : ∀ d ∈ done, d ≠ y := fun d hd e => hnew (e ▸ hd)
 have build : ∀ (ky : Option K), Comes φ H' H0.nx T' T ky o g gd → (∀ k, ky = some k → k = H.nx ∧ k.toNat < H'.nx.toNat) → H.nx.toNat ≤ H'.nx.toNat → WRel P φ H' w → Ext φ0 H0 w0 φ H' w → Inv P ops N φ0 H0 w0 L (y :: done) T' H' φ a w (upd key y ky) := by
  intro ky hc hky hnx hw' he'
  have hkold : ∀ d ∈ done, upd key y ky d = key d := fun d hd => upd_ne key ky (hne d hd)
  refine ⟨I.sz, I.down, fun i h => List.mem_cons_of_mem _ (I.sub i h), ?_, ?_, ?_, ?_, ?_, I.size, rel, hw', he', I.defers⟩
  ·intro i hi j hj
   rcases List.mem_cons.1 hi with rfl | hi
   ·exact List.mem_cons_of_mem _ (hanc j hj)
   ·exact List.mem_cons_of_mem _ (I.anc i hi j hj)
  ·intro i hi oi hoi hl
   rcases List.mem_cons.1 hi with rfl | hi
   ·rw [ho] at hoi; cases hoi; rw [hq] at hl; cases hl
   ·exact I.loud i hi oi hoi hl
  ·intro d hd hl
   rcases List.mem_cons.1 hd with rfl | hd
   ·exact ⟨o, g, gd, T, ho, hg, hgd, hq, reads, by rw [upd_same]; exact hc⟩
   ·exact hothers _ hkold d hd hl
  ·have hlow : ∀ d ∈ done, ∀ k, key d = some k → ky ≠ some k := by
    intro d hd k hk e
    have h1 := I.klt d hd k hk
    have h2 := (hky k e).1
    subst h2; exact Nat.lt_irrefl _ h1
   intro d hd d' hd' hl hl' k hk hk'
   rcases List.mem_cons.1 hd with e1 | h1
   ·rcases List.mem_cons.1 hd' with e2 | h2
    ·exact e1.trans e2.symm
    ·subst e1; rw [upd_same] at hk; rw [hkold d' h2] at hk'
     exact absurd hk (hlow d' h2 k hk')
   ·rcases List.mem_cons.1 hd' with e2 | h2
    ·subst e2; rw [upd_same] at hk'; rw [hkold d h1] at hk
     exact absurd hk' (hlow d h1 k hk)
    ·rw [hkold d h1] at hk; rw [hkold d' h2] at hk'
     exact I.keys d h1 d' h2 hl hl' k hk hk'
  ·intro d hd k hk
   rcases List.mem_cons.1 hd with rfl | hd
   ·rw [upd_same] at hk; exact (hky k hk).2
   ·rw [hkold d hd] at hk; exact Nat.lt_of_lt_of_le (I.klt d hd k hk) hnx
 rcases hcase with ⟨rfl, hc⟩ | ⟨_, _, b, rfl, hc⟩
 ·exact ⟨_, build none hc (fun k h => by cases h) (Nat.le_refl _) I.hw I.he⟩
 ·obtain ⟨h1, h2⟩ := hid_add I.hw b
  exact ⟨_, build (some H.nx) hc (fun k h => by cases h; exact ⟨rfl, K.lt_succ _⟩) (Nat.le_of_lt (K.lt_succ _)) h1 (I.he.trans h2)⟩
theorem Act.get_put_same {a : Act} {t : Tmp} {v : Value} (h : t < a.tmps.size) : (a.put (some t) v).tmps[t]? = some v := by
 simp only [Act.put, Array.getElem?_setIfInBounds]
 rw [if_pos trivial, if_pos h]
theorem Act.get_put_ne {a : Act} {d : Option Tmp} {t : Tmp} {v : Value} (h : d ≠ some t) : (a.put d v).tmps[t]? = a.tmps[t]? := by
 cases d with
 | none => rfl
 | some d =>
  simp only [Act.put, Array.getElem?_setIfInBounds]
  rw [if_neg (fun e => h (by rw [e]))]
theorem Act.size_put {a : Act} {d : Option Tmp} {v : Value} : (a.put d v).tmps.size = a.tmps.size := by cases d <;> simp [Act.put]
theorem Act.defers_put {a : Act} {d : Option Tmp} {v : Value} : (a.put d v).defers = a.defers := by cases d <;> rfl
theorem Rel1.put {φ' : Phi} {d : Option Tmp} {t : Nat} {v : AV} {v' : Value} (hle : φ.le φ') (h : Rel1 P φ a t v) (hn : d ≠ some t) : Rel1 P φ' (a.put d v') t v := by
 obtain ⟨x, h1, h2⟩ := h
 exact ⟨x, by rw [Act.get_put_ne hn]; exact h1, h2.mono hle⟩
theorem Inv.ran (hst : Fixed ops N) (I : Inv P ops N φ0 H0 w0 L done T H φ a w key) {d : Nat} {o : Oper} (hd : d ∈ done) (ho : ops[d]? = some o) (hdn : d < L.size)
  (hpr : ∀ p ∈ predsOf o, lst L p) {φ' : Phi} {v : AV} {v' : Value} (hle : φ.le φ') (hv : VRel P φ' v v') (hhas : Has T o.dst v) (hw' : WRel P φ' H u) (he' : Ext φ0 H0 w0 φ' H u)
  (hk : ∀ d' ∈ done, d' ≠ d → ¬ lst L d' → ∀ k, key d' = some k → φ k = none → φ' k = none) : Inv P ops N φ0 H0 w0 (L.setIfInBounds d true) done T H φ' (a.put o.dst v') u key := by
 have hls := fun i => lst_set L d i hdn
 have hpr' : ∀ o', ops[d]? = some o' → ∀ p ∈ predsOf o', lst L p := fun o' e => by rw [ho] at e; cases e; exact hpr
 have mine : ∀ t x, o.dst = some t → T.get (keyOf t) = some x → Rel1 P φ' (a.put o.dst v') t x := by
  intro t x e hx
  have := hhas t e
  rw [this] at hx; cases hx
  refine ⟨v', ?_, hv⟩
  rw [e]
  exact Act.get_put_same (Nat.lt_of_lt_of_le (hst.top d o t ho e) I.size)
 refine ⟨by simp [I.sz], ?_, ?_, I.anc, ?_, ?_, ?_, I.klt, by rw [Act.size_put]; exact I.size, ?_, hw', he', by rw [Act.defers_put]; exact I.defers⟩
 ·intro i oi hoi hl p hp
  rcases (hls i).1 hl with rfl | hl
  ·exact (hls p).2 (.inr (hpr' oi hoi p hp))
  ·exact (hls p).2 (.inr (I.down i oi hoi hl p hp))
 ·intro i hl
  rcases (hls i).1 hl with rfl | hl
  ·exact hd
  ·exact I.sub i hl
 ·intro i hi oi hoi hl
  exact (hls i).2 (.inr (I.loud i hi oi hoi hl))
 ·intro d' hd' hl'
  have hne : d' ≠ d := fun e => hl' ((hls d').2 (.inl e))
  have hl : ¬ lst L d' := fun h => hl' ((hls d').2 (.inr h))
  obtain ⟨od, g1, gd1, T0, hod, hg1, hgd1, hld, hr, hc⟩ := I.rdy d' hd' hl
  refine ⟨od, g1, gd1, T0, hod, hg1, hgd1, hld, ?_, ?_⟩
  ·intro t ht x hx
   obtain ⟨h1, h2⟩ := hr t ht x hx
   refine ⟨h1, ?_⟩
   rcases h2 with ⟨z, oz, hz, hlz, haz, hoz, hdz⟩ | h2
   ·by_cases e : z = d
    ·subst e
     rw [ho] at hoz; cases hoz
     exact .inr (mine t x hdz (h1 z hz haz o ho hdz))
    ·exact .inl ⟨z, oz, hz, fun h => ((hls z).1 h).elim e hlz, haz, hoz, hdz⟩
   ·by_cases e : o.dst = some t
    ·rcases hst.rw d d' o od t ho hod e ht with h | h
     ·exact .inr (mine t x e (h1 d hd h o ho e))
     ·exact absurd (h.listed I.down hpr') hl
    ·exact .inr (h2.put hle e)
  ·rcases hc with h | ⟨h1, x, h2, h3 | ⟨h3, h4, H1, G, k, h5, h6, h7, h8, h9, h10, h11⟩⟩
   ·exact .inl h
   ·exact .inr ⟨h1, x, h2, .inl h3⟩
   ·exact .inr ⟨h1, x, h2, .inr ⟨h3, h4, H1, G, k, h5, h6, h7, h8, hk d' hd' hne hl k h7 h9, h10, h11⟩⟩
 ·intro x hx x' hx' hl hl' k h1 h2
  exact I.keys x hx x' hx' (fun h => hl ((hls x).2 (.inr h))) (fun h => hl' ((hls x').2 (.inr h))) k h1 h2
 ·intro t x hx
  rcases I.rel t x hx with ⟨e, oe, he, hle', hoe, hde⟩ | h
  ·by_cases h : e = d
   ·subst h
    rw [ho] at hoe; cases hoe
    exact .inr (mine t x hde hx)
   ·exact .inl ⟨e, oe, he, fun h2 => ((hls e).1 h2).elim h hle', hoe, hde⟩
  ·by_cases e : o.dst = some t
   ·exact .inr (mine t x e hx)
   ·exact .inr (h.put hle e)
theorem gd_yes {o : Oper} {gd : Gd} {T0 : Tr AV} (h : gdOf ops o = some gd) (ht : TRelAt P φ T0 a.tmps (· ∈ gdTmp ops o)) (hy : GdYes T0 gd) : Region.wanted o (yielded ops a.tmps) = true := by
 rcases gdC_sound h ht (0 : Nat) 1 2 with e | ⟨_, h⟩ | ⟨e, _⟩
 ·rw [hy] at e; cases e
 ·exact h
 ·rw [hy] at e; cases e
theorem gd_no {o : Oper} {gd : Gd} {T0 : Tr AV} (h : gdOf ops o = some gd) (ht : TRelAt P φ T0 a.tmps (· ∈ gdTmp ops o)) (hy : GdNo T0 gd) : Region.wanted o (yielded ops a.tmps) = false := by
 rcases gdC_sound h ht (0 : Nat) 1 2 with e | ⟨e, _⟩ | ⟨_, h⟩
 ·rw [hy] at e; cases e
 ·rw [hy] at e; cases e
 ·exact h
theorem Inv.turn (hst : Fixed ops N) (I : Inv P ops N φ0 H0 w0 L done T H φ a w key) {d : Nat} (hd : d ∈ done) (hl : ¬ lst L d) (hdn : d < L.size)
  (hpr : ∀ o, ops[d]? = some o → ∀ p ∈ predsOf o, lst L p) {next : Act → World → Prop}
  (hn : ∀ a' u φ', Inv P ops N φ0 H0 w0 (L.setIfInBounds d true) done T H φ' a' u key → next a' u) : wpOp P ops Q d next a w := by
 obtain ⟨o, g, gd, T0, ho, hg, hgd, hld, hr, hc⟩ := I.rdy d hd hl
 have ht : TRelAt P φ T0 a.tmps (· ∈ readsOf ops o) := by
  intro t v ht hv
  rcases (hr t ht v hv).2 with ⟨x, ox, hx, hlx, hax, _, _⟩ | h
  ·exact absurd (hax.listed I.down hpr) hlx
  ·exact h
 have htg : TRelAt P φ T0 a.tmps (· ∈ gdTmp ops o) := ht.sub fun t h => List.mem_append_left _ h
 have hto : TRelAt P φ T0 a.tmps (· ∈ tmpsOf o.op.operands.toList) := ht.sub fun t h => List.mem_append_right _ h
 unfold wpOp
 rw [ho]
 rcases hc with ⟨h1, h2⟩ | ⟨h1, v, h2, h3⟩
 ·simp only [gd_no hgd htg h1]
  exact hn _ _ φ (I.ran hst hd ho hdn (hpr o ho) (fun _ _ h => h) (.tup _ #[] .nil) h2 I.hw I.he fun _ _ _ _ _ _ h => h)
 ·simp only [gd_yes hgd htg h1, if_true]
  left
  rcases h3 with ⟨h3, G, h4⟩ | ⟨h3, h4, H1, G, k, h5, h6, h7, h8, h9, h10, h11⟩
  ·have hran := cop_quiet (a := a) I.hw hg h3 hto
   rw [h4] at hran
   cases hran with
   | pure hw' hrun hv =>
    unfold Oper.wp
    rw [hrun]
    exact hn _ _ φ (I.ran hst hd ho hdn (hpr o ho) (fun _ _ h => h) hv h2 I.hw I.he fun _ _ _ _ _ _ h => h)
  ·have hran := cop_alloc (φ := φ) (a := a) hg h4 hto H1 w
   rw [h5] at hran
   cases hran with
   | new n esz rows vs e hL =>
    rw [Heap.get_add, h6, if_pos rfl] at h8
    obtain ⟨hw', he'⟩ := unhide I.hw I.he h9 h10 h11 h8 (n := vs.length) (o := .cells vs.toArray e) ⟨hL.pos, hL.len, [], vs, [], e, 0, 0, by simp, rfl, by simp, fun _ => .inl (Nat.le_refl _), hL.rel.mono (Phi.put_le _ _ _ h9), hL.one, by simp⟩
    unfold Oper.wp
    rw [hL.run]
    refine hn _ _ _ (I.ran hst hd ho hdn (hpr o ho) (Phi.put_le _ _ _ h9) (shp_rel (by rw [h6]; exact Phi.put_same _ _ _) hL.many) h2 hw' he' ?_)
    intro d' hd' hne hl' k' hk' hφ
    unfold Phi.put
    rw [if_neg]
    ·exact hφ
    ·intro e; subst e
     exact hne (I.keys d' hd' d hd hl' hl _ hk' h7)
   | map hR =>
    rw [Heap.get_add, h6, if_pos rfl] at h8
    obtain ⟨hw', he'⟩ := unhide I.hw I.he h9 h10 h11 h8 (n := 0) (o := .map #[] 0) ⟨#[], 0, by simp, .nil⟩
    unfold Oper.wp
    rw [hR]
    refine hn _ _ _ (I.ran hst hd ho hdn (hpr o ho) (Phi.put_le _ _ _ h9) (VRel.map H1.nx ⟨w.heap.size, 0, 0⟩ (by rw [h6]; exact Phi.put_same _ _ _)) h2 hw' he' ?_)
    intro d' hd' hne hl' k' hk' hφ
    unfold Phi.put
    rw [if_neg]
    ·exact hφ
    ·intro e; subst e
     exact hne (I.keys d' hd' d hd hl' hl _ hk' h7)
theorem Inv.go {eqv : AV → AV → Bool} (heq : ∀ a b, eqv a b = true → a = b) {E : FuncId → List AV → Heap → RC} (hE : Good P E) (hst : Fixed ops N) (I : Inv P ops N φ0 H0 w0 L done T H φ a w key)
  {y : Nat} {o : Oper} {g : Clo} {gd : Gd} {re : List Rk} (ho : ops[y]? = some o) (hg : cop P o = some g) (hgd : gdOf ops o = some gd)
  (hnew : y ∉ done) (hanc : ∀ j, Anc ops y j → j ∈ done)
  (hre : quietOp o.op = false → ∀ d ∈ done, ∀ od, ops[d]? = some od → quietOp od.op = true → (loudO o = true ∧ Anc ops y d) ∨ (∃ l ∈ done, ∃ ol, ops[l]? = some ol ∧ loudO ol = true ∧ Anc ops l d) ∨ Again P ops (y :: done) re d od)
  (hq : loudO o = true) (hyn : y < L.size) (hpr : ∀ o, ops[y]? = some o → ∀ p ∈ predsOf o, lst L p) {T' : Tr AV} {H' : Heap} (h : stepR eqv E (.mk (cloD o g) (o.dst.map keyOf) gd re) T H = some (T', H'))
  {next : Act → World → Prop} (hn : ∀ a' u φ', Inv P ops N φ0 H0 w0 (L.setIfInBounds y true) (y :: done) T' H' φ' a' u (upd key y none) → next a' u) : wpOp P ops Q y next a w := by
 have hself : ¬ Anc ops y y := fun h => hnew (hanc y h)
 have hls := fun i => lst_set L y i hyn
 simp only [loudO, Bool.and_eq_true, Bool.not_eq_true'] at hq
 obtain ⟨hqq, hqa⟩ := hq
 have hcl : cloD o g = g := by unfold cloD; rw [hqq, hqa]; rfl
 rw [hcl] at h
 have hane : ∀ d, Anc ops y d → lst L d := fun d hd => hd.listed I.down hpr
 have ht : TRelAt P φ T a.tmps (· ∈ readsOf ops o) := by
  intro t v ht hv
  rcases I.rel t v hv with ⟨x, ox, hx, hlx, hox, hdx⟩ | h
  ·rcases hst.rw x y ox o t hox ho hdx ht with h | h
   ·exact absurd (hane x h) hlx
   ·exact absurd (I.anc x hx y h) hnew
  ·exact h
 have htg : TRelAt P φ T a.tmps (· ∈ gdTmp ops o) := ht.sub fun t h => List.mem_append_left _ h
 have hto : TRelAt P φ T a.tmps (· ∈ tmpsOf o.op.operands.toList) := ht.sub fun t h => List.mem_append_right _ h
 have fin : ∀ {ψ : Phi} {u : World} {v : AV} {v' : Value}, putS T (o.dst.map keyOf) v T' → (H' = H ∨ ∀ r ∈ re, Seen eqv T' H' r) → VRel P ψ v v' → WRel P ψ H' u → Ext φ H w ψ H' u →
   Inv P ops N φ0 H0 w0 (L.setIfInBounds y true) (y :: done) T' H' ψ (a.put o.dst v') u (upd key y none) := by
  intro ψ u v v' hp hs hv hw' he'
  have hle := he'.le I.hw
  have hne : ∀ d ∈ done, d ≠ y := fun d hd e => hnew (e ▸ hd)
  have hkold : ∀ d ∈ done, upd key y none d = key d := fun d hd => upd_ne key none (hne d hd)
  have hdst : ∀ d ∈ done, ∀ od, ops[d]? = some od → ∀ t, od.dst = some t → o.dst ≠ some t := by
   intro d hd od hod t ht e
   have := hst.dst y d o od t ho hod e ht
   subst this; exact hnew hd
  have rel : ∀ t v, T'.get (keyOf t) = some v → (∃ d o, d ∈ y :: done ∧ ¬ lst (L.setIfInBounds y true) d ∧ ops[d]? = some o ∧ o.dst = some t) ∨ Rel1 P ψ (a.put o.dst v') t v := by
   intro t x hx
   by_cases e : o.dst = some t
   ·have := putS_same hp t e
    rw [this] at hx; cases hx
    refine .inr ⟨v', ?_, hv⟩
    rw [e]
    exact Act.get_put_same (Nat.lt_of_lt_of_le (hst.top y o t ho e) I.size)
   ·rw [putS_ne hp e] at hx
    rcases I.rel t x hx with ⟨d, od, hd, hl, hod, hdd⟩ | h
    ·exact .inl ⟨d, od, List.mem_cons_of_mem _ hd, fun h => ((hls d).1 h).elim (hne d hd) hl, hod, hdd⟩
    ·exact .inr (h.put hle e)
  refine ⟨by simp [I.sz], ?_, ?_, ?_, ?_, ?_, ?_, ?_, by rw [Act.size_put]; exact I.size, rel, hw', I.he.trans he', by rw [Act.defers_put]; exact I.defers⟩
  ·intro i oi hoi hl p hp
   rcases (hls i).1 hl with rfl | hl
   ·exact (hls p).2 (.inr (hpr oi hoi p hp))
   ·exact (hls p).2 (.inr (I.down i oi hoi hl p hp))
  ·intro i hl
   rcases (hls i).1 hl with rfl | hl
   ·simp
   ·exact List.mem_cons_of_mem _ (I.sub i hl)
  ·intro i hi j hj
   rcases List.mem_cons.1 hi with rfl | hi
   ·exact List.mem_cons_of_mem _ (hanc j hj)
   ·exact List.mem_cons_of_mem _ (I.anc i hi j hj)
  ·intro i hi oi hoi hl
   rcases List.mem_cons.1 hi with rfl | hi
   ·exact (hls i).2 (.inl rfl)
   ·exact (hls i).2 (.inr (I.loud i hi oi hoi hl))
  ·intro d hd' hl'
   have hdy : d ≠ y := fun e => hl' ((hls d).2 (.inl e))
   have hd : d ∈ done := (List.mem_cons.1 hd').resolve_left hdy
   have hl : ¬ lst L d := fun h => hl' ((hls d).2 (.inr h))
   obtain ⟨od, g1, gd1, T0, hod, hg1, hgd1, hld, hr, hc⟩ := I.rdy d hd hl
   have hhas : ∀ {v : AV}, Has T od.dst v → Has T' od.dst v := fun h => h.keep hp (hdst d hd od hod)
   have hr' : Reads P ops (L.setIfInBounds y true) (y :: done) ψ T' T0 (a.put o.dst v') d od := by
    intro t htr x hx
    obtain ⟨h1, h2⟩ := hr t htr x hx
    constructor
    ·intro z hz haz oz hoz hdz
     have hz' : z ∈ done := I.anc d hd z haz
     rw [putS_ne hp (hdst z hz' oz hoz t hdz)]
     exact h1 z hz' haz oz hoz hdz
    ·rcases h2 with ⟨z, oz, hz, hlz, haz, hoz, hdz⟩ | h2
     ·exact .inl ⟨z, oz, List.mem_cons_of_mem _ hz, fun h => ((hls z).1 h).elim (hne z hz) hlz, haz, hoz, hdz⟩
     ·refine .inr (h2.put hle fun e => ?_)
      rcases hst.rw y d o od t ho hod e htr with h | h
      ·exact hnew (I.anc d hd y h)
      ·exact hl (hane d h)
   have old : (quietOp od.op = true → H' = H) → Rdy P ops (L.setIfInBounds y true) (y :: done) ψ H' H0.nx T' (a.put o.dst v') (upd key y none) d := by
    intro hqe
    refine ⟨od, g1, gd1, T0, hod, hg1, hgd1, hld, hr', ?_⟩
    rcases hc with ⟨h1, h2⟩ | ⟨h1, v, h2, ⟨h3, G, h4⟩ | ⟨h3, h4, H1, G, k, h5, h6, h7, h8, h9, h10, h11⟩⟩
    ·exact .inl ⟨h1, hhas h2⟩
    ·refine .inr ⟨h1, v, hhas h2, .inl ⟨h3, G, ?_⟩⟩
     rw [hqe h3]; exact h4
    ·exact .inr ⟨h1, v, hhas h2, .inr ⟨h3, h4, H1, G, k, h5, h6, by rw [hkold d hd]; exact h7, by rw [he'.hidden k h10 h9]; exact h8, by rw [he'.phi k h10]; exact h9, Nat.lt_of_lt_of_le h10 he'.nx, h11⟩⟩
   rcases hs with hs | hs
   ·exact old fun _ => hs
   ·by_cases hqd : quietOp od.op = true
    ·rcases hre hqq d hd od hod hqd with ⟨_, h⟩ | ⟨l, hl1, ol, hol, hll, hal⟩ | h
     ·exact absurd (hane d h) hl
     ·exact absurd (hal.listed I.down fun o' ho' => I.down l o' ho' (I.loud l hl1 ol hol hll)) hl
     ·exact Seen.rdy heq hs hod hqd h rel
    ·exact old fun h => absurd h hqd
  ·intro d hd d' hd' hl hl' k hk hk'
   rcases List.mem_cons.1 hd with e1 | h1
   ·exact absurd ((hls d).2 (.inl e1)) hl
   ·rcases List.mem_cons.1 hd' with e2 | h2
    ·exact absurd ((hls d').2 (.inl e2)) hl'
    ·rw [hkold d h1] at hk; rw [hkold d' h2] at hk'
     exact I.keys d h1 d' h2 (fun h => hl ((hls d).2 (.inr h))) (fun h => hl' ((hls d').2 (.inr h))) k hk hk'
  ·intro d hd k hk
   rcases List.mem_cons.1 hd with rfl | hd
   ·rw [upd_same] at hk; cases hk
   ·rw [hkold d hd] at hk; exact Nat.lt_of_lt_of_le (I.klt d hd k hk) he'.nx
 unfold wpOp
 rw [ho]
 rcases stepR_cases h with ⟨h1, v, hp, h2, hs⟩ | ⟨h1, hp, rfl⟩
 ·simp only [gd_yes hgd htg h1, if_true]
  left
  have hran := cop_sound (a := a) (T := T) I.hw hg hto
  rcases h2 with h2 | ⟨fn, args, h2, h3⟩
  ·rw [h2] at hran
   cases hran with
   | val v G nx v' u ψ hrun hnx hw' he hv =>
    unfold Oper.wp
    rw [hrun]
    rcases hnx with rfl | ⟨rfl, rfl⟩
    ·exact hn _ _ _ (fin hp (.inr hs) hv hw' he)
    ·exact hn _ _ _ (fin hp (.inr hs) hv hw' he)
  ·rw [h2] at hran
   cases hran with
   | call fn args args' hrun ha =>
    unfold Oper.wp
    rw [hrun]
    refine (hE _ _ _ _ _ h3 φ w args' ha I.hw).mono fun e u ⟨ψ, v', he1, hv, hw', he⟩ => ?_
    subst he1
    exact hn _ _ _ (fin hp (.inr hs) hv hw' he)
 ·simp only [gd_no hgd htg h1]
  exact hn _ _ _ (fin hp (.inl rfl) (.tup _ #[] .nil) I.hw (Ext.refl _ _ _))
theorem Inv.step {eqv : AV → AV → Bool} (heq : ∀ a b, eqv a b = true → a = b) {E : FuncId → List AV → Heap → RC} (hE : Good P E) (hst : Fixed ops N) {T1 : Tr AV} {H1 : Heap}
  {i : Nat} (hin : i < L.size) (hl : ¬ lst L i) (hpr : ∀ o, ops[i]? = some o → ∀ p ∈ predsOf o, lst L p) {next : Act → World → Prop} {done rest : List Nat} {sts : List Stp} (hp : Plan P ops done rest sts) :
  ∀ (T : Tr AV) (H : Heap) (key : Nat → Option K), Inv P ops N φ0 H0 w0 L done T H φ a w key → (i ∈ done ∨ i ∈ rest) → stepsR eqv E sts T H = some (T1, H1) →
  (∀ done' rest' sts' T' H' φ' a' u key', Plan P ops done' rest' sts' → (∀ j, j ∈ done ∨ j ∈ rest → j ∈ done' ∨ j ∈ rest') → Inv P ops N φ0 H0 w0 (L.setIfInBounds i true) done' T' H' φ' a' u key' → stepsR eqv E sts' T' H' = some (T1, H1) → next a' u) → wpOp P ops Q i next a w := by
 induction hp with
 | nil =>
  intro T H key I hi h hn
  rcases hi with hi | hi
  ·exact I.turn hst hi hl hin hpr fun a' u φ' I' => hn _ _ _ _ _ _ _ _ _ .nil (fun _ h => h) I' h
  ·simp at hi
 | cons ho hg hgd hnew hanc hloud hre hrest ih =>
  rename_i done rest sts y o g gd re
  intro T H key I hi h hn
  by_cases hid : i ∈ done
  ·exact I.turn hst hid hl hin hpr fun a' u φ' I' => hn _ _ _ _ _ _ _ _ _ (.cons ho hg hgd hnew hanc hloud hre hrest) (fun _ h => h) I' h
  have hir := hi.resolve_left hid
  rw [stepsR_cons] at h
  cases hs : stepR eqv E (.mk (cloD o g) (o.dst.map keyOf) gd re) T H with
  | none => rw [hs] at h; cases h
  | some p =>
   obtain ⟨T2, H2⟩ := p
   rw [hs] at h
   have h : stepsR eqv E sts T2 H2 = some (T1, H1) := h
   have hmem : ∀ j, j ∈ done ∨ j ∈ y :: rest → j ∈ y :: done ∨ j ∈ rest := by
    intro j hj
    rcases hj with hj | hj
    ·exact .inl (List.mem_cons_of_mem _ hj)
    ·rcases List.mem_cons.1 hj with rfl | hj
     ·exact .inl (by simp)
     ·exact .inr hj
   cases hlo : loudO o with
   | false =>
    obtain ⟨key', I'⟩ := I.advance heq hst ho hg hgd hnew hanc hre hlo hs
    exact ih T2 H2 key' I' (hmem i (.inr hir)) h fun done' rest' sts' T' H' φ' a' u key'' hp' hm => hn done' rest' sts' T' H' φ' a' u key'' hp' fun j hj => hm j (hmem j hj)
   | true =>
    rcases List.mem_cons.1 hir with rfl | hir
    ·exact I.go heq hE hst ho hg hgd hnew hanc hre hlo hin hpr hs fun a' u φ' I' => hn _ _ _ _ _ _ _ _ _ hrest hmem I' h
    ·exfalso
     have := hrest.loud i hir y (by simp) o ho hlo
     exact hnew (I.sub y (this.listed I.down hpr))
theorem ready_listed {P : Program} {ops : Array Oper} {done rest : List Nat} {sts : List Stp} {L : Array Bool} (hsz : L.size = ops.size) (hp : Plan P ops done rest sts) (hr : Region.ready .any ops L = []) :
  (∀ j ∈ done, lst L j) → ∀ j ∈ rest, lst L j := by
 induction hp with
 | nil => intro _ j hj; simp at hj
 | cons ho hg hgd hnew hanc hloud hre hrest ih =>
  rename_i done rest sts y o g gd re
  intro hd
  have hy : lst L y := by
   by_cases h : lst L y
   ·exact h
   ·exfalso
    have hlt : y < L.size := by rw [hsz]; exact (Array.getElem?_eq_some_iff.1 ho).1
    have : y ∈ Region.ready .any ops L := by
     rw [mem_ready]
     refine ⟨?_, o, ho, fun e he hb => ?_⟩
     ·unfold lst at h
      simp [hlt] at h ⊢
      exact h
     ·exact hd _ (hanc e.on (.one ho (mem_predsOf.2 ⟨e, he, hb, rfl⟩)))
    rw [hr] at this; cases this
  have := ih (by
   intro j hj
   rcases List.mem_cons.1 hj with rfl | hj
   ·exact hy
   ·exact hd j hj)
  intro j hj
  rcases List.mem_cons.1 hj with rfl | hj
  ·exact hy
  ·exact this j hj
theorem steps_end {done rest : List Nat} {sts : List Stp} (hp : Plan P ops done rest sts) (I : Inv P ops N φ0 H0 w0 L done T H φ a w key)
  (hall : ∀ j ∈ rest, lst L j) : rest = [] ∧ sts = [] := by
 cases hp with
 | nil => exact ⟨rfl, rfl⟩
 | cons ho hg hgd hnew hanc hloud hre hrest => exact absurd (I.sub _ (hall _ (by simp))) hnew
theorem any_sound {eqv : AV → AV → Bool} (heq : ∀ a b, eqv a b = true → a = b) {E : FuncId → List AV → Heap → RC} (hE : Good P E) (hst : Fixed ops N) {ord0 : List Nat} {sts0 : List Stp} (hp0 : Plan P ops [] ord0 sts0) (hcov : ∀ j, j < ops.size → j ∈ ord0) {T1 : Tr AV} {H1 : Heap}
  (hQ : ∀ a' u, At2 P φ0 H0 w0 N T1 H1 a' u → Q .normal a' u) :
  ∀ (fuel : Nat) (unl : List Nat), unl.length ≤ fuel → ∀ (L : Array Bool) (done rest : List Nat) (sts : List Stp) (T : Tr AV) (H : Heap) (φ : Phi) (a : Act) (w : World) (key : Nat → Option K),
   (∀ j, j < ops.size → ¬ lst L j → j ∈ unl) → Plan P ops done rest sts → (∀ j, j < ops.size → j ∈ done ∨ j ∈ rest) → Inv P ops N φ0 H0 w0 L done T H φ a w key → stepsR eqv E sts T H = some (T1, H1) →
   wpAny P .any ops Q fuel L a w := by
 have stop : ∀ {L : Array Bool} {done rest : List Nat} {sts : List Stp} {T : Tr AV} {H : Heap} {φ : Phi} {a : Act} {w : World} {key : Nat → Option K}, Plan P ops done rest sts → Inv P ops N φ0 H0 w0 L done T H φ a w key → stepsR eqv E sts T H = some (T1, H1) →
   Region.ready .any ops L = [] → Q .normal a w := by
  intro L done rest sts T H φ a w key hp I h hr
  have hd0 := ready_listed I.sz hp0 hr (by simp)
  have hall : ∀ j, j < ops.size → lst L j := fun j hj => hd0 j (hcov j hj)
  obtain ⟨rfl, rfl⟩ := steps_end hp I (fun j hj => by
   by_cases hlt : j < ops.size
   ·exact hall j hlt
   ·exfalso
    have : ∀ {done rest : List Nat} {sts : List Stp}, Plan P ops done rest sts → ∀ j ∈ rest, j < ops.size := by
     intro done rest sts h
     induction h with
     | nil => intro j hj; simp at hj
     | cons ho _ _ _ _ _ _ _ ih =>
      intro j hj
      rcases List.mem_cons.1 hj with rfl | hj
      ·exact (Array.getElem?_eq_some_iff.1 ho).1
      ·exact ih j hj
    exact hlt (this hp j hj))
  cases h
  refine hQ a w ⟨I.defers, φ, ⟨I.size, fun t v hv => ?_⟩, I.hw, I.he⟩
  rcases I.rel t v hv with ⟨d, o, _, hl, ho, _⟩ | h
  ·exact absurd (hall d (Array.getElem?_eq_some_iff.1 ho).1) hl
  ·exact h
 intro fuel
 induction fuel with
 | zero =>
  intro unl hu L done rest sts T H φ a w key hun hp hcv I h
  have hall : ∀ j, j < ops.size → lst L j := by
   intro j hj
   by_cases hl : lst L j
   ·exact hl
   ·have := hun j hj hl
    have : unl = [] := List.eq_nil_of_length_eq_zero (Nat.le_zero.1 hu)
    subst this; simp_all
  have hr : Region.ready .any ops L = [] := by
   rw [List.eq_nil_iff_forall_not_mem]
   intro j hj
   rw [mem_ready] at hj
   obtain ⟨h0, o, ho, _⟩ := hj
   have hlt := (Array.getElem?_eq_some_iff.1 ho).1
   have h1 := hall j hlt
   unfold lst at h1
   have : j < L.size := by rw [I.sz]; exact hlt
   simp [this] at h0 h1
   rw [h0] at h1; cases h1
  exact ⟨hr, stop hp I h hr⟩
 | succ fuel ih =>
  intro unl hu L done rest sts T H φ a w key hun hp hcv I h
  refine ⟨stop hp I h, fun i hi => ?_⟩
  rw [mem_ready] at hi
  obtain ⟨h0, o, ho, hall⟩ := hi
  have hlt := (Array.getElem?_eq_some_iff.1 ho).1
  have hltL : i < L.size := by rw [I.sz]; exact hlt
  have hl : ¬ lst L i := by
   unfold lst
   simp [hltL] at h0 ⊢
   exact h0
  have hpr : ∀ o, ops[i]? = some o → ∀ p ∈ predsOf o, lst L p := by
   intro o' ho' p hp
   rw [ho] at ho'; cases ho'
   obtain ⟨e, he, hb, rfl⟩ := mem_predsOf.1 hp
   exact hall e he hb
  have hmem := hun i hlt hl
  refine Inv.step heq hE hst hltL hl hpr hp T H key I (hcv i hlt) h fun done' rest' sts' T' H' φ' a' u key' hp' hm I' h' => ?_
  refine ih (unl.erase i) ?_ _ done' rest' sts' T' H' φ' a' u key' ?_ hp' (fun j hj => hm j (hcv j hj)) I' h'
  ·rw [List.length_erase_of_mem hmem]; omega
  ·intro j hj hlj
   have hls := lst_set L i j hltL
   have hne : j ≠ i := fun e => hlj (hls.2 (.inl e))
   exact (List.mem_erase_of_ne hne).2 (hun j hj fun h => hlj (hls.2 (.inr h)))
end
noncomputable def tb (m i : Nat) : Bool := Nat.beq (Nat.mod (Nat.div m (Nat.pow 2 i)) 2) 1
theorem tb_eq (m i : Nat) : tb m i = m.testBit i := by
 rw [Nat.testBit_eq_decide_div_mod_eq]
 show Nat.beq (m / 2 ^ i % 2) 1 = _
 rw [Bool.eq_iff_iff]
 simp [Nat.beq_eq]
theorem tb_or (m k i : Nat) : tb (Nat.lor m k) i = (tb m i || tb k i) := by
 rw [tb_eq, tb_eq, tb_eq]; exact Nat.testBit_or m k i
theorem tb_pow (p i : Nat) : tb (Nat.pow 2 p) i = decide (p = i) := by
 rw [tb_eq]; exact Nat.testBit_two_pow
theorem tb_zero (i : Nat) : tb 0 i = false := by rw [tb_eq]; exact Nat.zero_testBit i
section
variable {β : Type}
noncomputable def orC (ms : Tr Nat) (ps : List Nat) : Nat → (Nat → β) → β :=
 List.rec (motive := fun _ => Nat → (Nat → β) → β) (fun m c => c m)
  (fun p _ ih m c => fN (Nat.lor m (Nat.pow 2 p)) fun m => Option.rec (motive := fun _ => β) (ih m c) (fun q => fN (Nat.lor m q) fun m => ih m c) (ms.get (keyOf p))) ps
noncomputable def masksC (l : List Oper) : K → Tr Nat → (Tr Nat → β) → β :=
 List.rec (motive := fun _ => K → Tr Nat → (Tr Nat → β) → β) (fun _ ms c => c ms)
  (fun o _ ih k ms c => orC ms (predsOf o) 0 fun m => ms.setC k (some m) fun ms => k.succC fun k => ih k ms c) l
end
def MaskOk (ops : Array Oper) (ms : Tr Nat) : Prop := ∀ i m, ms.get (keyOf i) = some m → ∀ j, tb m j = true → Anc ops i j
theorem orC_eq {β : Type} (ms : Tr Nat) : ∀ (ps : List Nat) (m : Nat) (c : Nat → β), ∃ m', orC ms ps m c = c m' ∧ (∀ j, tb m' j = true → tb m j = true ∨ ∃ p ∈ ps, p = j ∨ ∃ q, ms.get (keyOf p) = some q ∧ tb q j = true)
 | [], m, c => ⟨m, rfl, fun j h => .inl h⟩
 | p :: ps, m, c => by
  have hrw : orC ms (p :: ps) m c = fN (Nat.lor m (Nat.pow 2 p)) fun m => Option.rec (motive := fun _ => β) (orC ms ps m c) (fun q => fN (Nat.lor m q) fun m => orC ms ps m c) (ms.get (keyOf p)) := rfl
  rw [hrw, fN_eq]
  cases hq : ms.get (keyOf p) with
  | none =>
   obtain ⟨m', e, h⟩ := orC_eq ms ps (Nat.lor m (Nat.pow 2 p)) c
   refine ⟨m', e, fun j hj => ?_⟩
   rcases h j hj with h | ⟨p', hp, h⟩
   ·rw [tb_or, Bool.or_eq_true, tb_pow] at h
    rcases h with h | h
    ·exact .inl h
    ·exact .inr ⟨p, by simp, .inl (of_decide_eq_true h)⟩
   ·exact .inr ⟨p', by simp [hp], h⟩
  | some q =>
   obtain ⟨m', e, h⟩ := orC_eq ms ps (Nat.lor (Nat.lor m (Nat.pow 2 p)) q) c
   refine ⟨m', (fN_eq _ _).trans e, fun j hj => ?_⟩
   rcases h j hj with h | ⟨p', hp, h⟩
   ·rw [tb_or, tb_or, Bool.or_eq_true, Bool.or_eq_true, tb_pow] at h
    rcases h with (h | h) | h
    ·exact .inl h
    ·exact .inr ⟨p, by simp, .inl (of_decide_eq_true h)⟩
    ·exact .inr ⟨p, by simp, .inr ⟨q, hq, h⟩⟩
   ·exact .inr ⟨p', by simp [hp], h⟩
theorem masksC_eq {β : Type} (ops : Array Oper) : ∀ (l : List Oper) (i : Nat) (ms : Tr Nat) (c : Tr Nat → β), (∀ j, l[j]? = ops[i + j]?) → MaskOk ops ms → ∃ ms', masksC l (keyOf i) ms c = c ms' ∧ MaskOk ops ms'
 | [], i, ms, c, _, h => ⟨ms, rfl, h⟩
 | o :: l, i, ms, c, hl, h => by
  have hrw : masksC (o :: l) (keyOf i) ms c = orC ms (predsOf o) 0 fun m => ms.setC (keyOf i) (some m) fun ms => (keyOf i).succC fun k => masksC l k ms c := rfl
  rw [hrw]
  obtain ⟨m, e, hm⟩ := orC_eq ms (predsOf o) 0 (fun m => ms.setC (keyOf i) (some m) fun ms => (keyOf i).succC fun k => masksC l k ms c)
  rw [e, Tr.setC_eq, K.succC_eq]
  have ho : ops[i]? = some o := by have := hl 0; simpa using this.symm
  refine masksC_eq ops l (i + 1) _ c (fun j => ?_) ?_
  ·have := hl (j + 1)
   rw [show i + (j + 1) = i + 1 + j by omega] at this
   simpa using this
  ·intro i' m' hg j hj
   rw [Tr.get_set] at hg
   split at hg
   ·rename_i e2
    have := keyOf_inj e2; subst this
    cases hg
    rcases hm j hj with h1 | ⟨p, hp, rfl | ⟨q, hq, h1⟩⟩
    ·rw [tb_zero] at h1; cases h1
    ·exact .one ho hp
    ·exact .more ho hp (h p q hq j h1)
   ·exact h i' m' hg j hj
noncomputable def allI (f : Nat → Oper → Bool) (l : List Oper) : Nat → Bool :=
 List.rec (motive := fun _ => Nat → Bool) (fun _ => true) (fun o _ ih i => and' (f i o) (fN (Nat.succ i) ih)) l
theorem allI_spec {f : Nat → Oper → Bool} : ∀ {l : List Oper} {i : Nat}, allI f l i = true → ∀ j o, l[j]? = some o → f (i + j) o = true
 | [], i, _, j, o, h => by simp at h
 | x :: l, i, h, j, o, hj => by
  have h : and' (f i x) (fN (Nat.succ i) (allI f l)) = true := h
  obtain ⟨h1, h2⟩ := and'_eq h
  rw [fN_eq] at h2
  cases j with
  | zero => simp only [List.getElem?_cons_zero, Option.some.injEq] at hj; subst hj; exact h1
  | succ j =>
   have := allI_spec h2 j o (by simpa using hj)
   rwa [show i + (j + 1) = Nat.succ i + j by omega]
noncomputable def wrC {β : Type} (l : List Oper) : Nat → Tr Nat → (Tr Nat → β) → β :=
 List.rec (motive := fun _ => Nat → Tr Nat → (Tr Nat → β) → β) (fun _ t c => c t)
  (fun o _ ih i t c => Option.rec (motive := fun _ => β) (fN (Nat.succ i) fun i => ih i t c) (fun d => t.setC (keyOf d) (some i) fun t => fN (Nat.succ i) fun i => ih i t c) o.dst) l
theorem wrC_eq {β : Type} : ∀ (l : List Oper) (i : Nat) (t : Tr Nat) (c : Tr Nat → β), ∃ t', wrC l i t c = c t'
 | [], i, t, c => ⟨t, rfl⟩
 | o :: l, i, t, c => by
  have hrw : wrC (o :: l) i t c = Option.rec (motive := fun _ => β) (fN (Nat.succ i) fun i => wrC l i t c) (fun d => t.setC (keyOf d) (some i) fun t => fN (Nat.succ i) fun i => wrC l i t c) o.dst := rfl
  rw [hrw]
  cases o.dst with
  | none => show ∃ t', fN _ _ = c t'; rw [fN_eq]; exact wrC_eq l _ _ c
  | some d => show ∃ t', Tr.setC _ _ _ _ = c t'; rw [Tr.setC_eq, fN_eq]; exact wrC_eq l _ _ c
noncomputable def hasB (ms : Tr Nat) (i j : Nat) : Bool := Option.rec (motive := fun _ => Bool) false (fun m => tb m j) (ms.get (keyOf i))
theorem hasB_anc {ops : Array Oper} {ms : Tr Nat} (hm : MaskOk ops ms) {i j : Nat} (h : hasB ms i j = true) : Anc ops i j := by
 unfold hasB at h
 cases hg : ms.get (keyOf i) with
 | none => rw [hg] at h; cases h
 | some m => rw [hg] at h; exact hm i m hg j h
noncomputable def fixedB (ms wt : Tr Nat) (ops : Array Oper) (j : Nat) (o : Oper) : Bool :=
 and' (Option.rec (motive := fun _ => Bool) true (fun t => Option.rec (motive := fun _ => Bool) false (fun i => Nat.beq i j) (wt.get (keyOf t))) o.dst)
  (List.rec (motive := fun _ => Bool) true (fun t _ ih => Option.rec (motive := fun _ => Bool) ih (fun i => bif' (bif' (hasB ms j i) true (hasB ms i j)) ih false) (wt.get (keyOf t))) (readsOf ops o))
theorem fixed_sound {N : Nat} {ops : Array Oper} {ms wt : Tr Nat} (hm : MaskOk ops ms) (h : allI (fixedB ms wt ops) ops.toList 0 = true) (htop : ∀ (i : Nat) (o : Oper) (t : Nat), ops[i]? = some o → o.dst = some t → t < N) : Fixed ops N := by
 have hall : ∀ j o, ops[j]? = some o → fixedB ms wt ops j o = true := fun j o ho => by
  have := allI_spec h j o (by simpa using ho)
  simpa using this
 have hw : ∀ j o t, ops[j]? = some o → o.dst = some t → wt.get (keyOf t) = some j := by
  intro j o t ho hd
  have h1 := (and'_eq (hall j o ho)).1
  rw [hd] at h1
  cases hg : wt.get (keyOf t) with
  | none => simp only [hg] at h1; cases h1
  | some i => simp only [hg] at h1; rw [Nat.eq_of_beq_eq_true h1]
 refine ⟨fun i j oi oj t hi hj h1 h2 => ?_, fun i j oi oj t hi hj h1 h2 => ?_, htop⟩
 ·have e1 := hw i oi t hi h1
  have e2 := hw j oj t hj h2
  rw [e1] at e2; cases e2; rfl
 ·have e1 := hw i oi t hi h1
  have h3 := (and'_eq (hall j oj hj)).2
  have key : ∀ l : List Nat, t ∈ l → List.rec (motive := fun _ => Bool) true (fun t _ ih => Option.rec (motive := fun _ => Bool) ih (fun i => bif' (bif' (hasB ms j i) true (hasB ms i j)) ih false) (wt.get (keyOf t))) l = true → Anc ops j i ∨ Anc ops i j := by
   intro l
   induction l with
   | nil => intro h; simp at h
   | cons x l ih =>
    intro hx hr
    have hr : Option.rec (motive := fun _ => Bool) (List.rec (motive := fun _ => Bool) true (fun t _ ih => Option.rec (motive := fun _ => Bool) ih (fun i => bif' (bif' (hasB ms j i) true (hasB ms i j)) ih false) (wt.get (keyOf t))) l)
     (fun i => bif' (bif' (hasB ms j i) true (hasB ms i j)) (List.rec (motive := fun _ => Bool) true (fun t _ ih => Option.rec (motive := fun _ => Bool) ih (fun i => bif' (bif' (hasB ms j i) true (hasB ms i j)) ih false) (wt.get (keyOf t))) l) false) (wt.get (keyOf x)) = true := hr
    rcases List.mem_cons.1 hx with rfl | hx
    ·rw [e1] at hr
     have hr : bif' (bif' (hasB ms j i) true (hasB ms i j)) _ false = true := hr
     cases hb : hasB ms j i with
     | true => exact .inl (hasB_anc hm hb)
     | false =>
      cases hb2 : hasB ms i j with
      | true => exact .inr (hasB_anc hm hb2)
      | false => rw [hb, hb2] at hr; cases hr
    ·cases hg : wt.get (keyOf x) with
     | none => rw [hg] at hr; exact ih hx hr
     | some z =>
      rw [hg] at hr
      have hr : bif' (bif' (hasB ms j z) true (hasB ms z j)) _ false = true := hr
      rw [bif_eq] at hr
      split at hr
      ·exact ih hx hr
      ·cases hr
  exact key _ h2 h3
section
variable {β : Type}
noncomputable def insC (m y : Nat) (l : List Nat) : (List Nat → β) → β :=
 List.rec (motive := fun _ => (List Nat → β) → β) (fun c => c [y]) (fun h t ih c => bif' (tb m h) (c (y :: h :: t)) (ih fun r => c (h :: r))) l
noncomputable def ordC (ms : Tr Nat) (l : List Oper) : Nat → List Nat → (List Nat → β) → β :=
 List.rec (motive := fun _ => Nat → List Nat → (List Nat → β) → β) (fun _ r c => c r)
  (fun o _ ih i r c => bif' (loudO o) (fN (Nat.succ i) fun j => ih j (i :: r) c) (Option.rec (motive := fun _ => β) (fN (Nat.succ i) fun j => ih j (i :: r) c) (fun m => insC m i r fun r => fN (Nat.succ i) fun j => ih j r c) (ms.get (keyOf i)))) l
noncomputable def revC (l : List Nat) : List Nat → (List Nat → β) → β :=
 List.rec (motive := fun _ => List Nat → (List Nat → β) → β) (fun r c => c r) (fun x _ ih r c => ih (x :: r) c) l
end
theorem insC_eq {β : Type} (m y : Nat) : ∀ (l : List Nat) (c : List Nat → β), ∃ l', insC m y l c = c l'
 | [], c => ⟨_, rfl⟩
 | h :: t, c => by
  have hrw : insC m y (h :: t) c = bif' (tb m h) (c (y :: h :: t)) (insC m y t fun r => c (h :: r)) := rfl
  rw [hrw, bif_eq]
  split
  ·exact ⟨_, rfl⟩
  ·obtain ⟨l', e⟩ := insC_eq m y t (fun r => c (h :: r)); exact ⟨_, e⟩
theorem ordC_eq {β : Type} (ms : Tr Nat) : ∀ (l : List Oper) (i : Nat) (r : List Nat) (c : List Nat → β), ∃ l', ordC ms l i r c = c l'
 | [], i, r, c => ⟨_, rfl⟩
 | o :: l, i, r, c => by
  have hrw : ordC ms (o :: l) i r c = bif' (loudO o) (fN (Nat.succ i) fun j => ordC ms l j (i :: r) c) (Option.rec (motive := fun _ => β) (fN (Nat.succ i) fun j => ordC ms l j (i :: r) c) (fun m => insC m i r fun r => fN (Nat.succ i) fun j => ordC ms l j r c) (ms.get (keyOf i))) := rfl
  rw [hrw, bif_eq]
  split
  ·rw [fN_eq]; exact ordC_eq ms l _ _ c
  ·cases ms.get (keyOf i) with
   | none => show ∃ l', fN _ _ = c l'; rw [fN_eq]; exact ordC_eq ms l _ _ c
   | some m =>
    obtain ⟨l', e⟩ := insC_eq m i r (fun r => fN (Nat.succ i) fun j => ordC ms l j r c)
    show ∃ l', insC m i r _ = c l'
    rw [e, fN_eq]; exact ordC_eq ms l _ _ c
theorem revC_eq {β : Type} : ∀ (l r : List Nat) (c : List Nat → β), ∃ l', revC l r c = c l'
 | [], r, c => ⟨_, rfl⟩
 | x :: l, r, c => revC_eq l (x :: r) c
inductive QI where
 | mk (d : Nat) (o : Oper) (g : Clo) (gd : Gd) (m : Nat)
noncomputable def clashB (ops : Array Oper) (o : Oper) (m : Nat) (done : List Nat) : Bool :=
 done.all fun j => match (ops[j]?).bind (·.dst) with
  | some t => !((readsOf ops o).contains t) || tb m j
  | none => true
noncomputable def againL (ops : Array Oper) (done : List Nat) (loud : Bool) (m lm : Nat) : List QI → Option (List Rk)
 | [] => some []
 | .mk d o g gd md :: l => bif' (bif' (tb lm d) true (and' loud (tb m d))) (againL ops done loud m lm l) (bif' (clashB ops o md done) ((againL ops done loud m lm l).map fun r => .mk g (o.dst.map keyOf) gd :: r) none)
noncomputable def lastB (last : Option Nat) (m : Nat) : Bool := Option.rec (motive := fun _ => Bool) true (fun z => tb m z) last
noncomputable def planO (P : Program) (ops : Array Oper) (ms : Tr Nat) : List Nat → List Nat → Nat → Nat → Option Nat → List QI → Option (List Stp)
 | [], _, dm, _, _, _ => bif' (Nat.beq dm (Nat.sub (Nat.pow 2 ops.size) 1)) (some []) none
 | y :: l, done, dm, lm, last, qs =>
  (ops[y]?).bind fun o => (cop P o).bind fun g => (gdOf ops o).bind fun gd => (ms.get (keyOf y)).bind fun m =>
   bif' (tb dm y) none (bif' ((predsOf o).all (tb dm)) (bif' (lastB last m)
    ((bif' (quietOp o.op) (some []) (againL ops (y :: done) (loudO o) m lm qs)).bind fun re =>
     fN (Nat.lor dm (Nat.pow 2 y)) fun dm => fN (bif' (loudO o) (Nat.lor lm m) lm) fun lm =>
      (planO P ops ms l (y :: done) dm lm (bif' (loudO o) (some y) last) (bif' (quietOp o.op) (.mk y o g gd m :: qs) qs)).map fun r => .mk (cloD o g) (o.dst.map keyOf) gd re :: r) none) none)
theorem againL_sound {P : Program} {ops : Array Oper} {done : List Nat} {loud : Bool} {m lm : Nat} : ∀ {qs : List QI} {re : List Rk}, againL ops done loud m lm qs = some re →
  ∀ d o g gd md, QI.mk d o g gd md ∈ qs → (tb lm d = true ∨ (loud = true ∧ tb m d = true)) ∨ (Rk.mk g (o.dst.map keyOf) gd ∈ re ∧ ∀ j ∈ done, ∀ oj t, ops[j]? = some oj → oj.dst = some t → t ∈ readsOf ops o → tb md j = true)
 | [], re, h, d, o, g, gd, md, hm => by simp at hm
 | .mk d1 o1 g1 gd1 md1 :: l, re, h, d, o, g, gd, md, hm => by
  simp only [againL] at h
  rw [bif_eq] at h
  split at h
  ·rename_i hs
   rcases List.mem_cons.1 hm with e | hm
   ·cases e
    left
    rw [bif_eq] at hs
    split at hs
    ·left; assumption
    ·right; exact and'_eq hs
   ·exact againL_sound (P := P) h d o g gd md hm
  ·rw [bif_eq] at h
   split at h
   case isFalse => cases h
   rename_i hc
   obtain ⟨r, hr, rfl⟩ := map_some h
   rcases List.mem_cons.1 hm with e | hm
   ·cases e
    refine .inr ⟨by simp, fun j hj oj t hoj ht hrd => ?_⟩
    unfold clashB at hc
    rw [List.all_eq_true] at hc
    have := hc j hj
    simp only [hoj, Option.bind_some, ht] at this
    simp only [Bool.or_eq_true, Bool.not_eq_true'] at this
    rcases this with h | h
    ·simp only [List.contains_eq_mem, decide_eq_false_iff_not] at h; exact absurd hrd h
    ·exact h
   ·rcases againL_sound (P := P) hr d o g gd md hm with h | ⟨h1, h2⟩
    ·exact .inl h
    ·exact .inr ⟨List.mem_cons_of_mem _ h1, h2⟩
theorem planO_sound {P : Program} {ops : Array Oper} {ms : Tr Nat} (hms : MaskOk ops ms) : ∀ (l done : List Nat) (dm lm : Nat) (last : Option Nat) (qs : List QI) (sts : List Stp), planO P ops ms l done dm lm last qs = some sts →
  (∀ j, tb dm j = true ↔ j ∈ done) → (∀ i ∈ done, ∀ j, Anc ops i j → j ∈ done) →
  (∀ x ∈ done, ∀ ox, ops[x]? = some ox → loudO ox = true → ∃ z, last = some z ∧ (x = z ∨ Anc ops z x)) →
  (∀ d, tb lm d = true → ∃ l ∈ done, ∃ ol, ops[l]? = some ol ∧ loudO ol = true ∧ Anc ops l d) →
  (∀ d ∈ done, ∀ od, ops[d]? = some od → quietOp od.op = true → ∃ g gd m, QI.mk d od g gd m ∈ qs ∧ cop P od = some g ∧ gdOf ops od = some gd ∧ ms.get (keyOf d) = some m) →
  Plan P ops done l sts ∧ ∀ j, j < ops.size → j ∈ done ∨ j ∈ l
 | [], done, dm, lm, last, qs, sts, h, hdm, _, _, _, _ => by
  simp only [planO] at h
  rw [bif_eq] at h
  split at h
  case isFalse => cases h
  rename_i hb
  cases h
  refine ⟨.nil, fun j hj => .inl ((hdm j).1 ?_)⟩
  rw [Nat.eq_of_beq_eq_true hb, tb_eq]
  show (2 ^ ops.size - 1).testBit j = true
  rw [Nat.testBit_two_pow_sub_one]
  simpa using hj
 | y :: l, done, dm, lm, last, qs, sts, h, hdm, hcl, hlast, hlm, hqs => by
  simp only [planO] at h
  obtain ⟨o, ho, h⟩ := bind_some h
  obtain ⟨g, hg, h⟩ := bind_some h
  obtain ⟨gd, hgd, h⟩ := bind_some h
  obtain ⟨m, hm, h⟩ := bind_some h
  rw [bif_eq] at h
  split at h
  ·cases h
  rename_i hy
  rw [bif_eq] at h
  split at h
  case isFalse => cases h
  rename_i hpr
  rw [bif_eq] at h
  split at h
  case isFalse => cases h
  rename_i hlb
  obtain ⟨re, hre, h⟩ := bind_some h
  rw [fN_eq, fN_eq] at h
  obtain ⟨r, hr, rfl⟩ := map_some h
  have hnew : y ∉ done := fun e => hy ((hdm y).2 e)
  have hanc : ∀ j, Anc ops y j → j ∈ done := by
   have hp : ∀ p ∈ predsOf o, p ∈ done := fun p hp => (hdm p).1 (List.all_eq_true.1 hpr p hp)
   intro j hj
   cases hj with
   | one ho' h => rw [ho] at ho'; cases ho'; exact hp _ h
   | more ho' h hr => rw [ho] at ho'; cases ho'; exact hcl _ (hp _ h) _ hr
  have tr : ∀ {i j k : Nat}, Anc ops i j → Anc ops j k → Anc ops i k := by
   intro i j k h1 h2
   induction h1 with
   | one ho h => exact .more ho h h2
   | more ho h _ ih => exact .more ho h (ih h2)
  have hloud : ∀ x ∈ done, ∀ ox, ops[x]? = some ox → loudO ox = true → Anc ops y x := by
   intro x hx ox hox hl
   obtain ⟨z, rfl, hz⟩ := hlast x hx ox hox hl
   have h1 : tb m z = true := hlb
   have h2 := hms y m hm z h1
   rcases hz with rfl | hz
   ·exact h2
   ·exact tr h2 hz
  have hre' : quietOp o.op = false → ∀ d ∈ done, ∀ od, ops[d]? = some od → quietOp od.op = true → (loudO o = true ∧ Anc ops y d) ∨ (∃ l ∈ done, ∃ ol, ops[l]? = some ol ∧ loudO ol = true ∧ Anc ops l d) ∨ Again P ops (y :: done) re d od := by
   intro hq d hd od hod hqd
   rw [hq] at hre
   have hre : againL ops (y :: done) (loudO o) m lm qs = some re := hre
   obtain ⟨g1, gd1, m1, hmem, hg1, hgd1, hm1⟩ := hqs d hd od hod hqd
   rcases againL_sound (P := P) hre d od g1 gd1 m1 hmem with (h | ⟨h1, h2⟩) | ⟨h1, h2⟩
   ·exact .inr (.inl (hlm d h))
   ·exact .inl ⟨h1, hms y m hm d h2⟩
   ·exact .inr (.inr ⟨⟨g1, gd1, hg1, hgd1, h1⟩, fun j hj oj t hoj ht hrd => hms d m1 hm1 j (h2 j hj oj t hoj ht hrd)⟩)
  obtain ⟨hpl, hcov⟩ := planO_sound hms l (y :: done) _ _ _ _ r hr
   (by
    intro j
    rw [tb_or, Bool.or_eq_true, tb_pow, hdm j, List.mem_cons]
    constructor
    ·rintro (h | h)
     ·exact .inr h
     ·exact .inl (of_decide_eq_true h).symm
    ·rintro (h | h)
     ·exact .inr (decide_eq_true h.symm)
     ·exact .inl h)
   (by
    intro i hi j hj
    rcases List.mem_cons.1 hi with rfl | hi
    ·exact List.mem_cons_of_mem _ (hanc j hj)
    ·exact List.mem_cons_of_mem _ (hcl i hi j hj))
   (by
    intro x hx ox hox hl
    rcases List.mem_cons.1 hx with rfl | hx
    ·rw [ho] at hox; cases hox
     rw [hl]
     exact ⟨_, rfl, .inl rfl⟩
    ·cases hlo : loudO o with
     | true => exact ⟨y, rfl, .inr (hloud x hx ox hox hl)⟩
     | false => exact hlast x hx ox hox hl)
   (by
    intro d hd
    cases hlo : loudO o with
    | false =>
     rw [hlo] at hd
     obtain ⟨z, hz, rest⟩ := hlm d hd
     exact ⟨z, List.mem_cons_of_mem _ hz, rest⟩
    | true =>
     rw [hlo] at hd
     have hd : tb (Nat.lor lm m) d = true := hd
     rw [tb_or, Bool.or_eq_true] at hd
     rcases hd with hd | hd
     ·obtain ⟨z, hz, rest⟩ := hlm d hd
      exact ⟨z, List.mem_cons_of_mem _ hz, rest⟩
     ·exact ⟨y, by simp, o, ho, hlo, hms y m hm d hd⟩)
   (by
    intro d hd od hod hqd
    rcases List.mem_cons.1 hd with rfl | hd
    ·rw [ho] at hod; cases hod
     rw [hqd]
     exact ⟨g, gd, m, by simp [bif_true], hg, hgd, hm⟩
    ·obtain ⟨g1, gd1, m1, hmem, rest⟩ := hqs d hd od hod hqd
     refine ⟨g1, gd1, m1, ?_, rest⟩
     cases quietOp o.op with
     | true => exact List.mem_cons_of_mem _ hmem
     | false => exact hmem)
  refine ⟨.cons ho hg hgd hnew hanc hloud hre' hpl, fun j hj => ?_⟩
  rcases hcov j hj with h | h
  ·rcases List.mem_cons.1 h with rfl | h
   ·exact .inr (by simp)
   ·exact .inl h
  ·exact .inr (List.mem_cons_of_mem _ h)
noncomputable def planD (P : Program) (ops : Array Oper) : Option (List Stp) :=
 masksC ops.toList .z .lf fun ms => wrC ops.toList 0 .lf fun wt => bif' (allI (fixedB ms wt ops) ops.toList 0) (ordC ms ops.toList 0 [] fun r => revC r [] fun l => planO P ops ms l [] 0 0 none []) none
theorem planD_sound {P : Program} {ops : Array Oper} {N : Nat} (htop : ∀ (i : Nat) (o : Oper) (t : Nat), ops[i]? = some o → o.dst = some t → t < N) {sts : List Stp} (h : planD P ops = some sts) :
  Fixed ops N ∧ ∃ ord, Plan P ops [] ord sts ∧ ∀ j, j < ops.size → j ∈ ord := by
 unfold planD at h
 obtain ⟨ms, e, hms⟩ := masksC_eq ops ops.toList 0 .lf (fun ms => wrC ops.toList 0 .lf fun wt => bif' (allI (fixedB ms wt ops) ops.toList 0) (ordC ms ops.toList 0 [] fun r => revC r [] fun l => planO P ops ms l [] 0 0 none []) none)
  (fun j => by simp) (fun i m h => by rw [Tr.get_lf] at h; cases h)
 have e : (masksC ops.toList .z .lf fun ms => wrC ops.toList 0 .lf fun wt => bif' (allI (fixedB ms wt ops) ops.toList 0) (ordC ms ops.toList 0 [] fun r => revC r [] fun l => planO P ops ms l [] 0 0 none []) none) = _ := e
 rw [e] at h
 obtain ⟨wt, e⟩ := wrC_eq ops.toList 0 .lf (fun wt => bif' (allI (fixedB ms wt ops) ops.toList 0) (ordC ms ops.toList 0 [] fun r => revC r [] fun l => planO P ops ms l [] 0 0 none []) none)
 rw [e, bif_eq] at h
 split at h
 case isFalse => cases h
 rename_i hf
 obtain ⟨r, e⟩ := ordC_eq ms ops.toList 0 [] (fun r => revC r [] fun l => planO P ops ms l [] 0 0 none [])
 rw [e] at h
 obtain ⟨l, e⟩ := revC_eq r [] (fun l => planO P ops ms l [] 0 0 none [])
 rw [e] at h
 obtain ⟨h1, h2⟩ := planO_sound hms l [] 0 0 none [] sts h (by simp [tb_zero]) (by simp) (by simp) (by simp [tb_zero]) (by simp)
 exact ⟨fixed_sound hms hf htop, l, h1, fun j hj => (h2 j hj).resolve_left (by simp)⟩
end Go.Ev
