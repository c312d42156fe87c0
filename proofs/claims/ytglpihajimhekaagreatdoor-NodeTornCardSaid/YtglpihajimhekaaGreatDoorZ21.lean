/- part. -/
import Derived.Test.YtglpihajimhekaaGreatDoorZ20
import Derived.Test.YtglpihajimhekaaGreatDoorProg
import Derived.KernelRfl
set_option linter.all false
namespace Go.Ev
variable {P : Program} {φ : Phi} {H : Heap}
noncomputable def X0 : Orc := fun _ _ _ => none
theorem good_X0 : GoodX P X0 := fun _ _ _ _ h => by cases h
noncomputable def orX (F : FuncId) (A : List AV → Heap → Option RC) (X : Orc) : Orc := fun f args H => bif' (Nat.beq f F) (A args H) (X f args H)
theorem good_orX {F : FuncId} {A : List AV → Heap → Option RC} {X : Orc} (hA : ∀ args H v G, A args H = some (.ok v G) → FnOk P F args H fun v' G' => v' = v ∧ G' = G) (hX : GoodX P X) : GoodX P (orX F A X) := by
 intro f args H r h v G hr
 unfold orX at h
 cases hb : Nat.beq f F with
 | true =>
  rw [hb, bif_true] at h
  have := Nat.eq_of_beq_eq_true hb; subst this; subst hr
  exact hA args H v G h
 | false => rw [hb, bif_false] at h; exact hX f args H r h v G hr
noncomputable def insOwnA (esz bytes : Nat) (x : List AV) (kv k : K) (m n : Nat) (rows : List (List AV)) (H : Heap) : Option RC :=
 bif' (Nat.beq rows.length n) (bif' (K.beq kv k) none (bif' (Nat.ble m n) (bif' (Nat.ble (n + 1) 4294967295) (bif' (Nat.ble ((2 * (n + 1) + 192) * bytes) 281474976710656)
  (fL (rows.take m ++ x :: rows.drop m) fun rows => H.setC k .dead fun H => H.addC (.row true esz rows) fun k H => fN (n + 1) fun n => some (.ok (.slice k 0 n esz false n) H)) none) none) none)) none
noncomputable def insA (esz bytes : Nat) (args : List AV) (H : Heap) : Option RC :=
 match args with
 | [s, .int .i64 (.ofNat m), .slice kv 0 1 es true 1] => bif' (Nat.beq es esz) (match H.get kv with
  | some (.row true es1 [x]) => bif' (Nat.beq es1 esz) (match s with
   | .nils => bif' (Nat.beq m 0) (bif' (Nat.ble (194 * bytes) 281474976710656) (H.addC (.row true esz [x]) fun k H => some (.ok (.slice k 0 1 esz false 1) H)) none) none
   | .slice k 0 n es2 ex cap => bif' (Nat.beq es2 esz) (match H.get k with
    | some (.row true es3 rows) => bif' (Nat.beq es3 esz) (match n, ex, rows with
     | 0, true, [] => bif' (Nat.beq cap 0) (bif' (Nat.beq m 0) (bif' (Nat.ble (194 * bytes) 281474976710656) (H.addC (.row true esz [x]) fun k H => some (.ok (.slice k 0 1 esz false 1) H)) none) none) none
     | n + 1, false, rows => bif' (Nat.beq cap (n + 1)) (insOwnA esz bytes x kv k m (n + 1) rows H) none
     | _, _, _ => none) none
    | _ => none) none
   | _ => none) none
  | _ => none) none
 | _ => none
theorem insA_sound {F : FuncId} {esz bytes : Nat} {zero : List AV} (hf : InsFn P F esz bytes zero) (args : List AV) (H : Heap) (v : AV) (G : Heap) (h : insA esz bytes args H = some (.ok v G)) : FnOk P F args H fun v' G' => v' = v ∧ G' = G := by
 unfold insA at h
 split at h
 case h_2 => cases h
 rename_i s m kv es
 have b1 : ∀ {α : Type} (a b : Nat) (x : Option α) (y : α), bif' (Nat.beq a b) x none = some y → a = b ∧ x = some y := by
  intro α a b x y e
  cases hb : Nat.beq a b with
  | true => rw [hb] at e; exact ⟨Nat.eq_of_beq_eq_true hb, e⟩
  | false => rw [hb] at e; cases e
 have b2 : ∀ {α : Type} (a b : Nat) (x : Option α) (y : α), bif' (Nat.ble a b) x none = some y → a ≤ b ∧ x = some y := by
  intro α a b x y e
  cases hb : Nat.ble a b with
  | true => rw [hb] at e; exact ⟨Nat.le_of_ble_eq_true hb, e⟩
  | false => rw [hb] at e; cases e
 obtain ⟨rfl, h⟩ := b1 _ _ _ _ h
 split at h
 case h_2 => cases h
 rename_i es1 x hv
 obtain ⟨rfl, h⟩ := b1 _ _ _ _ h
 split at h
 case h_3 => cases h
 ·obtain ⟨rfl, h⟩ := b1 _ _ _ _ h
  obtain ⟨hb, h⟩ := b2 _ _ _ _ h
  rw [Heap.addC_eq] at h
  cases h
  exact insert_nil hf hv hb
 ·rename_i k n es2 ex cap g1 g2
  clear g1 g2
  obtain ⟨rfl, h⟩ := b1 _ _ _ _ h
  split at h
  case h_2 => cases h
  rename_i es3 rows hg
  obtain ⟨rfl, h⟩ := b1 _ _ _ _ h
  split at h
  case h_3 => cases h
  ·obtain ⟨e1, h⟩ := b1 _ _ _ _ h
   obtain ⟨e2, h⟩ := b1 _ _ _ _ h
   obtain ⟨hb, h⟩ := b2 _ _ _ _ h
   rw [Heap.addC_eq] at h
   cases h
   rw [e1, e2]
   exact insert_zero hf hv hg hb
  ·rename_i n rows'
   obtain ⟨e1, h⟩ := b1 _ _ _ _ h
   rw [e1]
   unfold insOwnA at h
   obtain ⟨hl, h⟩ := b1 _ _ _ _ h
   cases hk : K.beq kv k with
   | true => rw [hk] at h; cases h
   | false =>
   rw [hk, bif_false] at h
   have hkk : kv ≠ k := fun e => by rw [(K.beq_iff _ _).2 e] at hk; cases hk
   obtain ⟨hm, h⟩ := b2 _ _ _ _ h
   obtain ⟨hn, h⟩ := b2 _ _ _ _ h
   obtain ⟨hb, h⟩ := b2 _ _ _ _ h
   rw [fL_eq, Heap.setC_eq, Heap.addC_eq, fN_eq] at h
   cases h
   have := insert_own hf hkk hv hg (by omega) (by omega) (by omega) (by rw [hl]; exact hb) (i := m)
   rw [hl] at this
   exact this
end Go.Ev
namespace Go.Ev
variable {P : Program} {φ : Phi} {H : Heap} {w : World}
noncomputable def isA (t : Nat) (args : List AV) (H : Heap) : Option RC :=
 match args with
 | [.nili, .iface t2 (.int .i64 b)] => bif' (Nat.beq t2 t) (some (.ok (.bool false) H)) none
 | [.iface t1 (.int .i64 a), .iface t2 (.int .i64 b)] => bif' (Nat.beq t1 t) (bif' (Nat.beq t2 t) (eqI a b fun z => some (.ok (.bool z) H)) none) none
 | _ => none
noncomputable def asA (t tp tb : Nat) (args : List AV) (H : Heap) : Option RC :=
 match args with
 | [.nili, _] => some (.ok (.bool false) H)
 | [.iface t1 (.int .i64 a), .iface t2 (.ptr k 0)] => bif' (Nat.beq t1 t) (bif' (Nat.beq t2 tb) (some (.ok (.bool false) H)) (bif' (Nat.beq t2 tp)
  (match H.get k with
   | some (.row true 1 [[x]]) => H.setC k (.row true 1 [[.int .i64 a]]) fun H => some (.ok (.bool true) H)
   | _ => none) none)) none
 | _ => none
theorem cell_of_row (hw : WRel P φ H w) {k : K} {x : AV} {a : At} (hk : H.get k = some (.row true 1 [[x]])) (hφ : φ k = some a) : ∃ v, w.cell? ⟨a.b, a.o, none⟩ = some v ∧ VRel P φ x v ∧ w.frozen? ⟨a.b, a.o, none⟩ = false := by
 obtain ⟨hp, _, pre, vs, post, e, lo, hi, g1, g2, g3, g4, g5, g6⟩ := hw.blk k _ a hk hφ
 have g5 : VRels P φ [x] vs := g5
 cases g5 with
 | cons _ _ v l h1 h2 =>
  cases h2
  refine ⟨v, ?_, h1, ?_⟩
  ·simp only [World.cell?, g1]
   simp [← g2]
  ·simp only [World.frozen?, g1]
   have h4 := g4 rfl
   simp at g3 ⊢
   omega
theorem FnOk.of_calls_set {f : FuncId} {args : List AV} {k : K} {x y v : AV} {y' : Value} (hk : H.get k = some (.row true 1 [[x]])) (hy : ∀ φ, VRel P φ y y') (hone : y'.oneCell' = true) (hv : ∀ φ, ∃ v', VRel P φ v v')
  (h : ∀ φ w args', VRels P φ args args'.toList → WRel P φ H w → ∃ a, φ k = some a ∧ ∀ old, w.cell? ⟨a.b, a.o, none⟩ = some old → w.frozen? ⟨a.b, a.o, none⟩ = false →
   Calls P f args' w fun e u => (∃ v', e = .returned v' ∧ VRel P φ v v') ∧ ∃ w4, Grows w w4 ∧ u = w4.setCell ⟨a.b, a.o, none⟩ y') :
  FnOk P f args H fun r G => r = v ∧ G = H.set k (.row true 1 [[y]]) := by
 intro φ w args' ha hw
 obtain ⟨a, hφ, hc⟩ := h φ w args' ha hw
 obtain ⟨old, h1, _, h2⟩ := cell_of_row hw hk hφ
 refine (hc old h1 h2).mono ?_
 rintro e u ⟨⟨v', rfl, hv'⟩, w4, hg, rfl⟩
 have hw4 := hw.grows hg.size hg.old
 obtain ⟨old4, h14, _, h24⟩ := cell_of_row hw4 hk hφ
 obtain ⟨u, hst, hwu, hE⟩ := storeCells_sound (off := 0) (vals := [y]) (vals' := [y']) (rows' := [[y]]) hw4 hk hφ (.cons _ _ _ _ (hy φ) .nil) (by intro z hz; rw [List.mem_singleton.1 hz]; exact hone) (put_rows 1 [[x]] [[y]] 0 (by intro z hz; rw [List.mem_singleton.1 hz]; rfl) (by intro z hz; rw [List.mem_singleton.1 hz]; rfl) (Nat.le_refl 1))
 have hst' : (storeCells ⟨a.b, a.o, none⟩ [y']).run P w4 = .ok () (w4.setCell ⟨a.b, a.o, none⟩ y') := by
  simp only [storeCells, Addr.add, Sem.run_bind, Nat.add_zero, if_true]
  rw [run_store P w4 _ _ _ hone, h14]
  simp [h24]
 rw [Nat.add_zero] at hst
 rw [hst] at hst'
 injection hst' with _ hu
 subst hu
 refine ⟨v, _, ⟨rfl, rfl⟩, φ, v', rfl, hv', hwu, ?_⟩
 exact ⟨hE.phi, hE.nx, Nat.le_trans hg.size hE.size, fun b hb hn => by rw [hE.keeps b (Nat.lt_of_lt_of_le hb hg.size) hn, hg.old b hb], hE.hidden, fun b hb ho => hE.own b (Nat.lt_of_lt_of_le hb hg.size) ho, hE.os.trans hg.os, hE.tape.trans hg.tape, hE.output.trans hg.output⟩
theorem two_args {φ : Phi} {a b : AV} {args : Array Value} (h : VRels P φ [a, b] args.toList) : ∃ v u, args = #[v, u] ∧ VRel P φ a v ∧ VRel P φ b u := by
 cases hl : args.toList with
 | nil => rw [hl] at h; cases h
 | cons v l =>
  rw [hl] at h
  cases h with
  | cons _ _ _ _ h1 h2 =>
   cases h2 with
   | cons _ _ u _ h3 h4 =>
    cases h4
    exact ⟨v, u, by rw [← Array.toArray_toList (xs := args), hl], h1, h3⟩
noncomputable def okB (r : RC) : Bool := RC.rec (motive := fun _ => Bool) false (fun v _ => asBoolC v false fun b => b) r
theorem okB_eq {r : RC} (h : okB r = true) : ∃ G, r = .ok (.bool true) G := by
 cases r with
 | fail => cases h
 | ok v G =>
  cases v <;> first | (cases h; done) | skip
  rename_i b
  cases b
  ·cases h
  ·exact ⟨G, rfl⟩
theorem FnOk.of_evB {X : Orc} (hX : GoodX P X) {n : Nat} {f : FuncId} {args : List AV} (h : okB (evFn P X n f args H) = true) : FnOk P f args H fun v _ => v = .bool true := by
 obtain ⟨G, hG⟩ := okB_eq h
 exact (FnOk.of_ev hX hG).mono fun _ _ h => h.1
end Go.Ev
namespace Go.Ev
variable {P : Program} {φ ψ : Phi} {H : Heap} {w u : World} {T : Tr AV}
noncomputable def allN (n : Nat) (f : Nat → Bool) : Bool := Nat.rec (motive := fun _ => Bool) true (fun i r => bif' (f i) r false) n
theorem allN_of {f : Nat → Bool} : ∀ {n : Nat}, allN n f = true → ∀ i, i < n → f i = true
 | 0, _, i, hi => absurd hi (Nat.not_lt_zero i)
 | n + 1, h, i, hi => by
  have h : bif' (f n) (allN n f) false = true := h
  cases hn : f n with
  | false => rw [hn] at h; cases h
  | true =>
   rw [hn] at h
   rcases Nat.lt_or_eq_of_le (Nat.le_of_lt_succ hi) with h1 | rfl
   ·exact allN_of h i h1
   ·exact hn
theorem allN2 {a b : Nat} {f : Nat → Nat → Bool} (h : allN a (fun i => allN b (f i)) = true) : ∀ i, i < a → ∀ j, j < b → f i j = true := fun i hi j hj => allN_of (allN_of h i hi) j hj
noncomputable def resH (r : RC) : Heap := RC.rec (motive := fun _ => Heap) hp0 (fun _ G => G) r
noncomputable def isR (r : RC) (v : AV) : Bool := RC.rec (motive := fun _ => Bool) false (fun w _ => eqAV w v) r
theorem FnOk.of_evV {X : Orc} (hX : GoodX P X) {n : Nat} {f : FuncId} {args : List AV} {v : AV} (h : isR (evFn P X n f args H) v = true) : FnOk P f args H fun v' G => v' = v ∧ G = resH (evFn P X n f args H) := by
 cases hr : evFn P X n f args H with
 | fail => rw [hr] at h; cases h
 | ok w G =>
  rw [hr] at h
  have h : eqAV w v = true := h
  rw [← eqAV_eq h]
  exact FnOk.of_ev hX hr
end Go.Ev
namespace Go.Ev
variable {P : Program} {φ ψ : Phi} {H : Heap} {w u : World}
def AV.flat1 : AV → Bool
 | .agg l => l.all AV.flat
 | v => v.flat
theorem flat1_rel {v : AV} {x : Value} (hf : v.flat1 = true) (h : VRel P φ v x) (ψ : Phi) : VRel P ψ v x := by
 cases v with
 | agg l =>
  cases h with
  | agg _ c h1 h2 => exact .agg _ _ (flats_rel ψ hf h1) h2
 | _ => exact flat_rel (by exact hf) h ψ
theorem flats1_rel (ψ : Phi) {l : List AV} {l' : List Value} (hf : l.all AV.flat1 = true) (h : VRels P φ l l') : VRels P ψ l l' := by
 induction l generalizing l' with
 | nil => cases h; exact .nil
 | cons v l ih =>
  cases h with
  | cons _ _ v' l' h hs =>
   rw [List.all_cons, Bool.and_eq_true] at hf
   exact .cons _ _ _ _ (flat1_rel hf.1 h ψ) (ih hf.2 hs)
def AV.flat2 : AV → Bool
 | .tup l => l.all AV.flat1
 | v => v.flat1
theorem flat2_rel {v : AV} {x : Value} (hf : v.flat2 = true) (h : VRel P φ v x) (ψ : Phi) : VRel P ψ v x := by
 cases v with
 | tup l =>
  cases h with
  | tup _ c h1 => exact .tup _ _ (flats1_rel ψ hf h1)
 | _ => exact flat1_rel (by exact hf) h ψ
theorem FnOk.lift1 {f : FuncId} {args : List AV} {v : AV} (ha : args.all AV.flat1 = true) (hv : v.flat2 = true) (h : FnOk P f args hp0 fun r _ => r = v) : FnOk P f args H fun r G => r = v ∧ G = H := by
 intro φ w args' hargs hw
 refine (h (fun _ => none) w args' (flats1_rel _ ha hargs) hw.to0).mono ?_
 rintro e u ⟨_, G, rfl, ψ, x, rfl, hx, hwu, hE⟩
 have hno : ∀ b, b < w.heap.size → u.heap[b]? = w.heap[b]? := by
  intro b hb
  refine hE.keeps b hb ?_
  rintro ⟨k, c, a, hk, _⟩
  rw [hp0_get] at hk; cases hk
 exact ⟨_, H, ⟨rfl, rfl⟩, φ, x, rfl, flat2_rel hv hx φ, hw.grows hE.size hno, ⟨fun _ _ => rfl, Nat.le_refl _, hE.size, fun b hb _ => hno b hb, fun _ _ _ => rfl, fun _ _ h => h, hE.os, hE.tape, hE.output⟩⟩
theorem FnOk.of_ev1 {X : Orc} (hX : GoodX P X) {n : Nat} {f : FuncId} {args : List AV} {v : AV} (ha : args.all AV.flat1 = true) (hv : v.flat2 = true) (h : isR (evFn P X n f args hp0) v = true) : FnOk P f args H fun r G => r = v ∧ G = H :=
 FnOk.lift1 ha hv ((FnOk.of_evV hX h).mono fun _ _ h => h.1)
end Go.Ev
set_option maxRecDepth 100000
namespace Go.Ev
variable {P : Program} {φ ψ : Phi} {H G : Heap} {w u : World}
mutual
theorem VRel.fwd {ρ : K → K} (hρ : ∀ k a, φ k = some a → ψ (ρ k) = some a) : ∀ {v : AV} {v' : Value}, VRel P φ v v' → VRel P ψ (v.ren ρ) v'
 | _, _, .bool b => by rw [AV.ren]; exact .bool b
 | _, _, .int k n => by rw [AV.ren]; exact .int k n
 | _, _, .str l s e => by rw [AV.ren]; exact .str l s e
 | _, _, .nilp => by rw [AV.ren]; exact .nilp
 | _, _, .ptr k off a e => by rw [AV.ren]; exact .ptr _ off a (hρ k a e)
 | _, _, .nils => by rw [AV.ren]; exact .nils
 | _, _, .slice k off len esz ex cap a c e hx hc hl hn => by rw [AV.ren]; exact .slice _ off len esz ex cap a c (hρ k a e) hx hc hl hn
 | _, _, .sliceE k off esz ex a x e => by rw [AV.ren]; exact .sliceE _ off esz ex a x (hρ k a e)
 | _, _, .fn f a b c d h1 h2 => by rw [AV.ren]; exact .fn f _ _ c d (VRels.fwd hρ h1) (VRels.fwd hρ h2)
 | _, _, .nilf => by rw [AV.ren]; exact .nilf
 | _, _, .iface t v v' e => by rw [AV.ren]; exact .iface t _ v' (VRel.fwd hρ e)
 | _, _, .nili => by rw [AV.ren]; exact .nili
 | _, _, .agg l c e h1 => by rw [AV.ren]; exact .agg _ c (VRels.fwd hρ e) h1
 | _, _, .tup l c e => by rw [AV.ren]; exact .tup _ c (VRels.fwd hρ e)
 | _, _, .nilm => by rw [AV.ren]; exact .nilm
 | _, _, .map k a e => by rw [AV.ren]; exact .map _ a (hρ k a e)
 | _, _, .typ t => by rw [AV.ren]; exact .typ t
 | _, _, .any v h => by rw [AV.ren]; exact .any v h
 | _, _, .geq n m h => by rw [AV.ren]; exact .geq n m h
theorem VRels.fwd {ρ : K → K} (hρ : ∀ k a, φ k = some a → ψ (ρ k) = some a) : ∀ {l : List AV} {l' : List Value}, VRels P φ l l' → VRels P ψ (AV.rens ρ l) l'
 | _, _, .nil => by rw [AV.rens]; exact .nil
 | _, _, .cons v l v' l' a b => by rw [AV.rens]; exact .cons _ _ _ _ (VRel.fwd hρ a) (VRels.fwd hρ b)
end
theorem ERel.fwd {ρ : K → K} (hρ : ∀ k a, φ k = some a → ψ (ρ k) = some a) : ∀ {l : List (AV × AV)} {l' : List MapEntry}, ERel P φ l l' → ERel P ψ (l.map fun p => (p.1.ren ρ, p.2.ren ρ)) l'
 | _, _, .nil => .nil
 | _, _, .cons k v l e l' hk hv hl => .cons _ _ _ e l' (hk.fwd hρ) (hv.fwd hρ) (ERel.fwd hρ hl)
theorem BlkRel.fwd {ρ : K → K} (hρ : ∀ k a, φ k = some a → ψ (ρ k) = some a) {at_ : At} : ∀ {b : Blk}, BlkRel P φ w at_ b → BlkRel P ψ w at_ (b.ren ρ)
 | .dead, _ => trivial
 | .row wr esz rows, h => by
  have h : RowRel P φ w at_ wr esz rows := h
  obtain ⟨hp, hl, pre, vs, post, e, lo, hi, h1, h2, h3, h4, h5, h6⟩ := h
  show RowRel P ψ w at_ wr esz (rows.map (AV.rens ρ))
  refine ⟨hp, fun r hr => ?_, pre, vs, post, e, lo, hi, h1, h2, h3, h4, ?_, h6⟩
  ·obtain ⟨x, hx, rfl⟩ := List.mem_map.1 hr
   rw [AV.rens_length]; exact hl _ hx
  ·rw [← AV.rens_flatten]; exact h5.fwd hρ
 | .map es, h => by
  obtain ⟨c, clock, h1, h2⟩ := h
  exact ⟨c, clock, h1, h2.fwd hρ⟩
mutual
def AV.keys : AV → List K
 | .ptr k _ => [k]
 | .slice k _ _ _ _ _ => [k]
 | .fn _ a c => AV.keyss a ++ AV.keyss c
 | .iface _ v => AV.keys v
 | .agg l => AV.keyss l
 | .tup l => AV.keyss l
 | .map k => [k]
 | _ => []
def AV.keyss : List AV → List K
 | [] => []
 | v :: l => AV.keys v ++ AV.keyss l
end
mutual
theorem VRel.keys_some : ∀ {v : AV} {v' : Value}, VRel P φ v v' → ∀ k ∈ v.keys, φ k ≠ none
 | _, _, .ptr k off a e => fun j hj => by rw [AV.keys, List.mem_singleton] at hj; subst hj; rw [e]; simp
 | _, _, .slice k off len esz ex cap a c e hx hc hl hn => fun j hj => by rw [AV.keys, List.mem_singleton] at hj; subst hj; rw [e]; simp
 | _, _, .sliceE k off esz ex a x e => fun j hj => by rw [AV.keys, List.mem_singleton] at hj; subst hj; rw [e]; simp
 | _, _, .fn f a b c d h1 h2 => fun j hj => by
  rw [AV.keys, List.mem_append] at hj
  rcases hj with hj | hj
  ·exact VRels.keys_some h1 j hj
  ·exact VRels.keys_some h2 j hj
 | _, _, .iface t v v' e => fun j hj => by rw [AV.keys] at hj; exact VRel.keys_some e j hj
 | _, _, .agg l c e h1 => fun j hj => by rw [AV.keys] at hj; exact VRels.keys_some e j hj
 | _, _, .tup l c e => fun j hj => by rw [AV.keys] at hj; exact VRels.keys_some e j hj
 | _, _, .map k a e => fun j hj => by rw [AV.keys, List.mem_singleton] at hj; subst hj; rw [e]; simp
 | _, _, .bool b => fun j hj => by simp [AV.keys] at hj
 | _, _, .int k n => fun j hj => by simp [AV.keys] at hj
 | _, _, .str l s e => fun j hj => by simp [AV.keys] at hj
 | _, _, .nilp => fun j hj => by simp [AV.keys] at hj
 | _, _, .nils => fun j hj => by simp [AV.keys] at hj
 | _, _, .nilf => fun j hj => by simp [AV.keys] at hj
 | _, _, .nili => fun j hj => by simp [AV.keys] at hj
 | _, _, .nilm => fun j hj => by simp [AV.keys] at hj
 | _, _, .typ t => fun j hj => by simp [AV.keys] at hj
 | _, _, .any v h => fun j hj => by simp [AV.keys] at hj
 | _, _, .geq n m h => fun j hj => by simp [AV.keys] at hj
theorem VRels.keys_some : ∀ {l : List AV} {l' : List Value}, VRels P φ l l' → ∀ k ∈ AV.keyss l, φ k ≠ none
 | _, _, .nil => fun j hj => by simp [AV.keyss] at hj
 | _, _, .cons v l v' l' a b => fun j hj => by
  rw [AV.keyss, List.mem_append] at hj
  rcases hj with hj | hj
  ·exact VRel.keys_some a j hj
  ·exact VRels.keys_some b j hj
end
def Blk.keys : Blk → List K
 | .row _ _ rows => AV.keyss rows.flatten
 | _ => []
theorem BlkRel.keys_some {at_ : At} {b : Blk} (h : BlkRel P φ w at_ b) : ∀ k ∈ b.keys, φ k ≠ none := by
 cases b with
 | dead => intro k hk; cases hk
 | row wr esz rows =>
  obtain ⟨hp, hl, pre, vs, post, e, lo, hi, h1, h2, h3, h4, h5, h6⟩ := (h : RowRel P φ w at_ wr esz rows)
  exact h5.keys_some
 | map es => intro k hk; cases hk
noncomputable def memK (k : K) (l : List K) : Bool := List.rec (motive := fun _ => Bool) false (fun x _ ih => bif' (K.beq k x) true ih) l
theorem memK_mem {k : K} : ∀ {l : List K}, memK k l = true → k ∈ l
 | x :: l, h => by
  have h : bif' (K.beq k x) true (memK k l) = true := h
  cases hb : K.beq k x with
  | true => rw [(K.beq_iff _ _).1 hb]; exact List.mem_cons_self
  | false => rw [hb] at h; exact List.mem_cons_of_mem _ (memK_mem h)
noncomputable def reachB (bl : List Blk) : K → List K → Bool :=
 List.rec (motive := fun _ => K → List K → Bool) (fun _ _ => true)
  (fun b _ ih k acc => bif' (Blk.rec (motive := fun _ => Bool) true (fun _ _ _ => memK k acc) (fun _ => memK k acc) b) (ih k.succ (acc ++ b.keys)) false) bl
mutual
theorem AV.ren_congr {ρ σ : K → K} : ∀ {v : AV}, (∀ k ∈ v.keys, ρ k = σ k) → v.ren ρ = v.ren σ
 | .ptr k _, h => by rw [AV.ren, AV.ren, h k (by simp [AV.keys])]
 | .slice k _ _ _ _ _, h => by rw [AV.ren, AV.ren, h k (by simp [AV.keys])]
 | .fn _ a c, h => by
  rw [AV.ren, AV.ren, AV.rens_congr (l := a) fun k hk => h k (by rw [AV.keys]; exact List.mem_append_left _ hk), AV.rens_congr (l := c) fun k hk => h k (by rw [AV.keys]; exact List.mem_append_right _ hk)]
 | .iface _ v, h => by rw [AV.ren, AV.ren, AV.ren_congr (v := v) fun k hk => h k (by rw [AV.keys]; exact hk)]
 | .agg l, h => by rw [AV.ren, AV.ren, AV.rens_congr (l := l) fun k hk => h k (by rw [AV.keys]; exact hk)]
 | .tup l, h => by rw [AV.ren, AV.ren, AV.rens_congr (l := l) fun k hk => h k (by rw [AV.keys]; exact hk)]
 | .map k, h => by rw [AV.ren, AV.ren, h k (by simp [AV.keys])]
 | .bool _, _ => by rw [AV.ren, AV.ren]
 | .int _ _, _ => by rw [AV.ren, AV.ren]
 | .str _, _ => by rw [AV.ren, AV.ren]
 | .nilp, _ => by rw [AV.ren, AV.ren]
 | .nils, _ => by rw [AV.ren, AV.ren]
 | .nilf, _ => by rw [AV.ren, AV.ren]
 | .nili, _ => by rw [AV.ren, AV.ren]
 | .nilm, _ => by rw [AV.ren, AV.ren]
 | .typ _, _ => by rw [AV.ren, AV.ren]
 | .any, _ => by rw [AV.ren, AV.ren]
 | .geq _, _ => by rw [AV.ren, AV.ren]
theorem AV.rens_congr {ρ σ : K → K} : ∀ {l : List AV}, (∀ k ∈ AV.keyss l, ρ k = σ k) → AV.rens ρ l = AV.rens σ l
 | [], _ => by rw [AV.rens, AV.rens]
 | v :: l, h => by
  rw [AV.rens, AV.rens, AV.ren_congr (v := v) fun k hk => h k (by rw [AV.keyss]; exact List.mem_append_left _ hk), AV.rens_congr (l := l) fun k hk => h k (by rw [AV.keyss]; exact List.mem_append_right _ hk)]
end
theorem keyss_flat : ∀ {l : List (List AV)} {r : List AV}, r ∈ l → ∀ k ∈ AV.keyss r, k ∈ AV.keyss l.flatten
 | x :: l, r, hr, k, hk => by
  have e : ∀ a b : List AV, AV.keyss (a ++ b) = AV.keyss a ++ AV.keyss b := fun a b => by
   induction a with
   | nil => simp [AV.keyss]
   | cons v a ih => simp [AV.keyss, ih]
  rw [List.flatten_cons, e, List.mem_append]
  rcases List.mem_cons.1 hr with rfl | hr
  ·exact .inl hk
  ·exact .inr (keyss_flat hr k hk)
def Blk.keysA : Blk → List K
 | .dead => []
 | .row _ _ rows => AV.keyss rows.flatten
 | .map es => AV.keyss (es.map Prod.fst) ++ AV.keyss (es.map Prod.snd)
theorem Blk.ren_congr {ρ σ : K → K} {b : Blk} (h : ∀ k ∈ b.keysA, ρ k = σ k) : b.ren ρ = b.ren σ := by
 cases b with
 | dead => rfl
 | row wr esz rows =>
  show Blk.row wr esz (rows.map (AV.rens ρ)) = Blk.row wr esz (rows.map (AV.rens σ))
  congr 1
  exact List.map_congr_left fun r hr => AV.rens_congr fun k hk => h k (keyss_flat hr k hk)
 | map es =>
  show Blk.map (es.map _) = Blk.map (es.map _)
  congr 1
  refine List.map_congr_left fun p hp => ?_
  have key : ∀ {l : List AV} {v : AV}, v ∈ l → ∀ k ∈ v.keys, k ∈ AV.keyss l := by
   intro l
   induction l with
   | nil => intro v hv; cases hv
   | cons x l ih =>
    intro v hv k hk
    rw [AV.keyss, List.mem_append]
    rcases List.mem_cons.1 hv with rfl | hv
    ·exact .inl hk
    ·exact .inr (ih hv k hk)
  rw [AV.ren_congr (v := p.1) fun k hk => h k (List.mem_append_left _ (key (List.mem_map_of_mem hp) k hk)), AV.ren_congr (v := p.2) fun k hk => h k (List.mem_append_right _ (key (List.mem_map_of_mem hp) k hk))]
def rk (κ : List K) (top k : K) : K := (κ[k.toNat - 1]?).getD top
theorem rk_some {κ : List K} {top k j : K} (h : κ[k.toNat - 1]? = some j) : rk κ top k = j := by unfold rk; rw [h]; rfl
theorem rk_none {κ : List K} {top k : K} (h : κ[k.toNat - 1]? = none) : rk κ top k = top := by unfold rk; rw [h]; rfl
theorem rk_in {κ : List K} {k : K} (h : k.toNat ≤ κ.length) (t t' : K) : rk κ t k = rk κ t' k := by
 have := k.toNat_pos
 have e : κ[k.toNat - 1]? = some (κ[k.toNat - 1]'(by omega)) := List.getElem?_eq_getElem _
 rw [rk_some e, rk_some e]
theorem hp0_key (i : Nat) : (hp0.key i).toNat = i + 1 := by rw [Heap.toNat_key]; show 1 + i = _; omega
theorem get_small (bl : List Blk) (k : K) : (hp0.ext bl).get k = bl[k.toNat - 1]? := by
 have hpos := k.toNat_pos
 have h1 : hp0.nx.toNat = 1 := rfl
 rw [Heap.get_ext, h1, hp0_get]
 split
 ·rfl
 ·rename_i hn
  rw [List.getElem?_eq_none (by omega)]
theorem nx_small (bl : List Blk) : (hp0.ext bl).nx.toNat = bl.length + 1 := by rw [Heap.nx_ext, hp0_key]
structure Fit (H : Heap) (κ : List K) (bl : List Blk) : Prop where
 len : κ.length = bl.length
 nodup : κ.Nodup
 old : ∀ k ∈ κ, k.toNat < H.nx.toNat
 closed : ∀ b ∈ bl, ∀ k ∈ b.keysA, k.toNat ≤ bl.length
 blk : ∀ (i : Nat) (b : Blk) (k : K), bl[i]? = some b → κ[i]? = some k → b.live → H.get k = some (b.ren (rk κ .z))
theorem may_live {b : Blk} (h : b.mayWrite) : b.live := by cases b <;> simp_all [Blk.mayWrite, Blk.live]
section
variable {κ : List K} {bl : List Blk} {top : K}
theorem Fit.ren (h : Fit H κ bl) {b : Blk} (hb : b ∈ bl) (t t' : K) : b.ren (rk κ t) = b.ren (rk κ t') := Blk.ren_congr fun k hk => rk_in (by rw [h.len]; exact h.closed b hb k hk) t t'
theorem Fit.blkT (h : Fit H κ bl) (top : K) (i : Nat) (b : Blk) (k : K) (hb : bl[i]? = some b) (hk : κ[i]? = some k) (hl : b.live) : H.get k = some (b.ren (rk κ top)) := by
 rw [h.ren (List.mem_of_getElem? hb) top .z]
 exact h.blk i b k hb hk hl
theorem Fit.small (h : Fit H κ bl) (top : K) {k : K} {b : Blk} (hb : (hp0.ext bl).get k = some b) (hl : b.live) : H.get (rk κ top k) = some (b.ren (rk κ top)) := by
 rw [get_small] at hb
 have hi := (List.getElem?_eq_some_iff.1 hb).1
 have hk : κ[k.toNat - 1]? = some (κ[k.toNat - 1]'(by rw [h.len]; exact hi)) := List.getElem?_eq_getElem _
 rw [rk_some hk]
 exact h.blkT top _ _ _ hb hk hl
theorem Fit.vis (h : Fit H κ bl) (ht : H.nx.toNat ≤ top.toNat) (hw : WRel P φ H w) {k : K} {a : At} (ha : φ (rk κ top k) = some a) : k.toNat - 1 < κ.length := by
 by_cases hi : k.toNat - 1 < κ.length
 ·exact hi
 ·rw [rk_none (List.getElem?_eq_none (by omega))] at ha
  have := hw.dom _ _ ha
  omega
theorem Fit.inj (h : Fit H κ bl) {i j : Nat} {k : K} (hi : κ[i]? = some k) (hj : κ[j]? = some k) : i = j :=
 (List.getElem?_inj (List.getElem?_eq_some_iff.1 hi).1 h.nodup).1 (hi.trans hj.symm)
theorem Fit.own (h : Fit H κ bl) {b : Nat} (ho : Owned (fun k => φ (rk κ top k)) (hp0.ext bl) b) : ∃ (i : Nat) (c : Blk) (k : K) (a : At), bl[i]? = some c ∧ κ[i]? = some k ∧ c.mayWrite ∧ H.get k = some (c.ren (rk κ top)) ∧ φ k = some a ∧ a.b = b := by
 obtain ⟨k, c, a, hg, hm, ha, e⟩ := ho
 have h1 := h.small top hg (may_live hm)
 rw [get_small] at hg
 have hi := (List.getElem?_eq_some_iff.1 hg).1
 have hk : κ[k.toNat - 1]? = some (κ[k.toNat - 1]'(by rw [h.len]; exact hi)) := List.getElem?_eq_getElem _
 have ha : φ (rk κ top k) = some a := ha
 rw [rk_some hk] at ha h1
 exact ⟨_, c, _, a, hg, hk, hm, h1, ha, e⟩
theorem WRel.small (h : Fit H κ bl) (ht : H.nx.toNat ≤ top.toNat) (hw : WRel P φ H w) : WRel P (fun k => φ (rk κ top k)) (hp0.ext bl) w := by
 refine ⟨⟨fun k a ha => ?_, fun k b hb => ?_, fun k b a hb ha => ?_, fun j k c d x y hjk hc hd hx hy lc ld hxy hm => ?_, fun k a ha => hw.size _ a ha⟩, fun g v hm => ⟨(hw.rom g v hm).1, fun ho => ?_⟩⟩
 ·have h1 : k.toNat - 1 < κ.length := h.vis ht hw ha
  rw [h.len] at h1
  have := k.toNat_pos
  rw [nx_small]; omega
 ·rw [get_small] at hb
  have := (List.getElem?_eq_some_iff.1 hb).1
  have := k.toNat_pos
  rw [nx_small]; omega
 ·cases b with
  | dead => trivial
  | row wr esz rows => exact (hw.blk _ _ a (h.small top hb trivial) ha).ren
  | map es => exact (hw.blk _ _ a (h.small top hb trivial) ha).ren
 ·refine hw.inj _ _ _ _ x y (fun e => ?_) (h.small top hc lc) (h.small top hd ld) hx hy (Blk.ren_live.2 lc) (Blk.ren_live.2 ld) hxy (Blk.ren_mayWrite.2 hm)
  have h1 : j.toNat - 1 < κ.length := h.vis ht hw hx
  have h2 : k.toNat - 1 < κ.length := h.vis ht hw hy
  have e1 : κ[j.toNat - 1]? = some (κ[j.toNat - 1]'h1) := List.getElem?_eq_getElem _
  have e2 : κ[k.toNat - 1]? = some (κ[k.toNat - 1]'h2) := List.getElem?_eq_getElem _
  rw [rk_some e1, rk_some e2] at e
  rw [← e] at e2
  have := h.inj e1 e2
  have := j.toNat_pos
  have := k.toNat_pos
  exact hjk (K.toNat_inj (by omega))
 ·obtain ⟨i, c, k, a, -, -, h3, h4, h5, h6⟩ := h.own ho
  exact (hw.rom g v hm).2 ⟨k, _, a, h4, Blk.ren_mayWrite.2 h3, h5, h6⟩
end
theorem Heap.over (g : K → Option Blk) (H : Heap) : ∀ n, ∃ H' : Heap, H'.nx = H.nx ∧ ∀ k, H'.get k = if k.toNat ≤ n then (g k).orElse (fun _ => H.get k) else H.get k
 | 0 => ⟨H, rfl, fun k => by rw [if_neg]; have := k.toNat_pos; omega⟩
 | n + 1 => by
  obtain ⟨H', h1, h2⟩ := Heap.over g H n
  have hk : (hp0.key n).toNat = n + 1 := hp0_key n
  cases hg : g (hp0.key n) with
  | none =>
   refine ⟨H', h1, fun k => ?_⟩
   rw [h2]
   by_cases h : k.toNat ≤ n
   ·rw [if_pos h, if_pos (by omega)]
   ·rw [if_neg h]
    by_cases h3 : k.toNat ≤ n + 1
    ·obtain rfl : k = hp0.key n := K.toNat_inj (by omega)
     rw [if_pos h3, hg]; rfl
    ·rw [if_neg h3]
  | some b =>
   refine ⟨H'.set (hp0.key n) b, h1, fun k => ?_⟩
   rw [Heap.get_set]
   by_cases e : hp0.key n = k
   ·subst e
    rw [if_pos rfl, if_pos (by omega), hg]; rfl
   ·rw [if_neg e, h2]
    by_cases h : k.toNat ≤ n
    ·rw [if_pos h, if_pos (by omega)]
    ·rw [if_neg h, if_neg fun h3 => e (K.toNat_inj (by omega))]
theorem Blk.dead_or (b : Blk) : b = .dead ∨ b.live := by cases b <;> simp [Blk.live]
theorem reach_vis {κ : List K} {top : K} : ∀ (l : List Blk) (i : Nat) (k : K) (acc : List K), k.toNat = i + 1 → reachB l k acc = true → (∀ j ∈ acc, φ (rk κ top j) ≠ none) →
  (∀ (j : Nat) (b : Blk), l[j]? = some b → b.live → ∀ a, φ (rk κ top (hp0.key (i + j))) = some a → BlkRel P φ w a (b.ren (rk κ top))) →
  ∀ (j : Nat) (b : Blk), l[j]? = some b → b.live → φ (rk κ top (hp0.key (i + j))) ≠ none
 | [], _, _, _, _, _, _, _, j, b, hj, _ => by simp at hj
 | c :: l, i, k, acc, hk, h, ha, hb, j, b, hj, hl => by
  have h : bif' (Blk.rec (motive := fun _ => Bool) true (fun _ _ _ => memK k acc) (fun _ => memK k acc) c) (reachB l k.succ (acc ++ c.keys)) false = true := h
  have hki : k = hp0.key i := K.toNat_inj (by rw [hk, hp0_key])
  have h1 : (Blk.rec (motive := fun _ => Bool) true (fun _ _ _ => memK k acc) (fun _ => memK k acc) c : Bool) = true ∧ reachB l k.succ (acc ++ c.keys) = true := by
   cases hx : (Blk.rec (motive := fun _ => Bool) true (fun _ _ _ => memK k acc) (fun _ => memK k acc) c : Bool) with
   | true => rw [hx] at h; exact ⟨rfl, h⟩
   | false => rw [hx] at h; cases h
  have hc : c.live → φ (rk κ top (hp0.key i)) ≠ none := fun hcl => by
   rw [← hki]
   refine ha k (memK_mem ?_)
   cases c with
   | dead => exact hcl.elim
   | row wr esz rows => exact h1.1
   | map es => exact h1.1
  cases j with
  | zero =>
   cases hj
   exact hc hl
  | succ j =>
   have hj : l[j]? = some b := hj
   rw [show i + (j + 1) = i + 1 + j by omega]
   refine reach_vis l (i + 1) k.succ (acc ++ c.keys) (by rw [K.toNat_succ, hk]) h1.2 (fun x hx => ?_) (fun j b hj hl a ha => ?_) j b hj hl
   ·rcases List.mem_append.1 hx with hx | hx
    ·exact ha x hx
    ·have hcl : c.live := by cases c with
      | dead => cases hx
      | row _ _ _ => trivial
      | map _ => trivial
     cases hv : φ (rk κ top (hp0.key i)) with
     | none => exact absurd hv (hc hcl)
     | some a => exact (hb 0 c rfl hcl a hv).ren.keys_some x hx
   ·have := hb (j + 1) b hj hl
    rw [show i + (j + 1) = i + 1 + j by omega] at this
    exact this a ha
structure Framed (H : Heap) (κ : List K) (bl : List Blk) (sel : List K) (bl' : List Blk) (G : Heap) (κ' : List K) : Prop where
 fit : Fit G κ' bl'
 stay : ∀ (i : Nat) (k : K), sel[i]? = some k → k.toNat ≤ bl.length → κ'[i]? = κ[k.toNat - 1]?
 keep : ∀ (k : K) (b : Blk), H.get k = some b → (∀ (i : Nat) (c : Blk), bl[i]? = some c → c.live → κ[i]? ≠ some k) → G.get k = some b
 nx : H.nx.toNat ≤ G.nx.toNat
 ok : G.ok
 src : ∀ k ∈ κ', k ∈ κ ∨ H.nx.toNat ≤ k.toNat
open Classical in
theorem frame_rel {κ sel : List K} {bl bl' : List Blk} {G0 : Heap} (hw : WRel P φ H w) (hF : Fit H κ bl)
  (hvis : ∀ (i : Nat) (b : Blk) (k : K), bl[i]? = some b → b.live → κ[i]? = some k → φ k ≠ none)
  (hW : WRel P ψ G0 u) (hE : Ext (fun k => φ (rk κ H.nx k)) (hp0.ext bl) w ψ G0 u) (hS : Fit G0 sel bl') (hmw : ∀ b ∈ bl', b.live → b.mayWrite)
  (hop : ∀ (i : Nat) (k : K) (b : Blk), sel[i]? = some k → bl[k.toNat - 1]? = some .dead → bl'[i]? = some b → b = .dead) :
  ∃ (χ : Phi) (M : Heap) (κ' : List K), WRel P χ M u ∧ Ext φ H w χ M u ∧ Framed H κ bl sel bl' M κ' ∧ ∀ (k : K) (a : At), k.toNat ≤ bl'.length → ψ (rk sel .z k) = some a → χ (rk κ' .z k) = some a := by
 obtain ⟨m, hm⟩ : ∃ m, m = bl.length := ⟨_, rfl⟩
 obtain ⟨n, hn⟩ : ∃ n, n = bl'.length := ⟨_, rfl⟩
 obtain ⟨S, hSd⟩ : ∃ S : Nat → K, S = fun i => (sel[i]?).getD .z := ⟨_, rfl⟩
 have hSi : ∀ i, i < n → sel[i]? = some (S i) := fun i hi => by
  have : i < sel.length := by rw [hS.len, ← hn]; exact hi
  rw [hSd]; simp only [List.getElem?_eq_getElem this, Option.getD_some]
 obtain ⟨F, hFd⟩ : ∃ F : Nat → K, F = fun i => if (S i).toNat ≤ m then rk κ .z (S i) else H.key i := ⟨_, rfl⟩
 have hFo : ∀ i, (S i).toNat ≤ m → F i = rk κ .z (S i) := fun i h => by rw [hFd]; exact if_pos h
 have hFn : ∀ i, ¬ (S i).toNat ≤ m → F i = H.key i := fun i h => by rw [hFd]; exact if_neg h
 have hSo : ∀ i, (S i).toNat ≤ m → κ[(S i).toNat - 1]? = some (F i) := fun i h => by
  have := (S i).toNat_pos
  have e : κ[(S i).toNat - 1]? = some (κ[(S i).toNat - 1]'(by rw [hF.len]; omega)) := List.getElem?_eq_getElem _
  rw [hFo i h, rk_some e]; exact e
 have hFlt : ∀ i, (S i).toNat ≤ m → (F i).toNat < H.nx.toNat := fun i h => hF.old _ (List.mem_of_getElem? (hSo i h))
 have hinj : ∀ i j, i < n → j < n → F i = F j → i = j := by
  intro i j hi hj e
  by_cases h1 : (S i).toNat ≤ m
  ·by_cases h2 : (S j).toNat ≤ m
   ·have e1 := hSo i h1
    have e2 := hSo j h2
    rw [← e] at e2
    have e3 := hF.inj e1 e2
    have p1 := (S i).toNat_pos
    have p2 := (S j).toNat_pos
    have e4 : S i = S j := K.toNat_inj (by omega)
    have e5 := hSi i hi
    rw [e4] at e5
    exact hS.inj e5 (hSi j hj)
   ·have := hFlt i h1
    rw [e, hFn j h2, Heap.toNat_key] at this
    omega
  ·by_cases h2 : (S j).toNat ≤ m
   ·have := hFlt j h2
    rw [← e, hFn i h1, Heap.toNat_key] at this
    omega
   ·rw [hFn i h1, hFn j h2] at e
    exact Heap.key_inj e
 obtain ⟨κ', hκ⟩ : ∃ κ' : List K, κ' = (List.range n).map F := ⟨_, rfl⟩
 have hκl : κ'.length = n := by rw [hκ, List.length_map, List.length_range]
 have hκi : ∀ i, i < n → κ'[i]? = some (F i) := fun i hi => by rw [hκ, List.getElem?_map, List.getElem?_range hi]; rfl
 have hκb : ∀ i k, κ'[i]? = some k → i < n ∧ k = F i := fun i k h => by
  have hi := (List.getElem?_eq_some_iff.1 h).1
  rw [hκl] at hi
  rw [hκi i hi] at h
  exact ⟨hi, (Option.some.inj h).symm⟩
 obtain ⟨g, hg⟩ : ∃ g : K → Option Blk, g = fun k => if h : ∃ i b, i < n ∧ bl'[i]? = some b ∧ b.live ∧ (S i).toNat ≤ m ∧ F i = k then some (h.choose_spec.choose.ren (rk κ' .z)) else if ∃ (i : Nat) (c : Blk), bl[i]? = some c ∧ c.live ∧ κ[i]? = some k then some .dead else none := ⟨_, rfl⟩
 have hg1 : ∀ i b, i < n → bl'[i]? = some b → b.live → (S i).toNat ≤ m → g (F i) = some (b.ren (rk κ' .z)) := fun i b hi hb hl hs => by
  have h : ∃ i' b', i' < n ∧ bl'[i']? = some b' ∧ b'.live ∧ (S i').toNat ≤ m ∧ F i' = F i := ⟨i, b, hi, hb, hl, hs, rfl⟩
  rw [hg]
  simp only [dif_pos h]
  obtain ⟨h1, h2, h3, h4, h5⟩ := h.choose_spec.choose_spec
  have e2 : bl'[h.choose]? = bl'[i]? := congrArg (fun z => bl'[z]?) (hinj _ _ h1 hi h5)
  have e3 := h2.symm.trans (e2.trans hb)
  exact congrArg (fun z => some (Blk.ren (rk κ' .z) z)) (Option.some.inj e3)
 have hg2 : ∀ k b, g k = some b → (∃ i b', i < n ∧ bl'[i]? = some b' ∧ b'.live ∧ (S i).toNat ≤ m ∧ F i = k ∧ b = b'.ren (rk κ' .z)) ∨ (b = .dead ∧ ∃ (i : Nat) (c : Blk), bl[i]? = some c ∧ c.live ∧ κ[i]? = some k) := fun k b h => by
  rw [hg] at h
  simp only at h
  split at h
  ·rename_i hx
   obtain ⟨h1, h2, h3, h4, h5⟩ := hx.choose_spec.choose_spec
   exact .inl ⟨_, _, h1, h2, h3, h4, h5, (Option.some.inj h).symm⟩
  ·split at h
   ·rename_i hx
    exact .inr ⟨(Option.some.inj h).symm, hx⟩
   ·cases h
 have hg3 : ∀ k, g k = none → ∀ (i : Nat) (c : Blk), bl[i]? = some c → c.live → κ[i]? ≠ some k := fun k h i c h1 h2 h3 => by
  rw [hg] at h
  simp only at h
  split at h
  ·cases h
  ·rw [if_pos ⟨i, c, h1, h2, h3⟩] at h; cases h
 obtain ⟨H', hnx', hget'⟩ := Heap.over g H (H.nx.toNat - 1)
 have hpx := H.nx.toNat_pos
 obtain ⟨M, hM⟩ : ∃ M, M = H'.ext ((List.range n).map fun i => if (S i).toNat ≤ m then Blk.dead else ((bl'[i]?).getD .dead).ren (rk κ' .z)) := ⟨_, rfl⟩
 have hkey : ∀ i, H'.key i = H.key i := fun i => by unfold Heap.key; rw [hnx']
 have hMn : M.nx.toNat = H.nx.toNat + n := by rw [hM, Heap.nx_ext, Heap.toNat_key, hnx', List.length_map, List.length_range]
 have hMo : ∀ k, k.toNat < H.nx.toNat → M.get k = (g k).orElse (fun _ => H.get k) := fun k hk => by
  rw [hM, Heap.get_ext_lt _ _ _ (by rw [hnx']; exact hk), hget', if_pos (by omega)]
 have hMf : ∀ i, i < n → M.get (H.key i) = some (if (S i).toNat ≤ m then Blk.dead else ((bl'[i]?).getD .dead).ren (rk κ' .z)) := fun i hi => by
  rw [hM, ← hkey, Heap.get_ext_key _ _ _ (by rw [List.length_map, List.length_range]; exact hi), List.getElem?_map, List.getElem?_range hi]; rfl
 have hMk : ∀ k b, M.get k = some b → k.toNat < H.nx.toNat ∨ ∃ i, i < n ∧ k = H.key i := fun k b h => by
  by_cases hk : k.toNat < H.nx.toNat
  ·exact .inl hk
  ·refine .inr ⟨k.toNat - H.nx.toNat, ?_, K.toNat_inj (by rw [Heap.toNat_key]; omega)⟩
   rw [hM, Heap.get_ext, hnx', List.length_map, List.length_range] at h
   split at h
   ·omega
   ·rw [hget', if_neg (by omega)] at h
    exact absurd (hw.top k b h) hk
 have hMN : ∀ i b, i < n → bl'[i]? = some b → b.live → M.get (F i) = some (b.ren (rk κ' .z)) := fun i b hi hb hl => by
  by_cases hs : (S i).toNat ≤ m
  ·rw [hMo _ (hFlt i hs), hg1 i b hi hb hl hs]; rfl
  ·rw [hFn i hs, hMf i hi, if_neg hs, hb]; rfl
 obtain ⟨χ, hχ⟩ : ∃ χ : Phi, χ = fun k => if k.toNat < H.nx.toNat then φ k else if k.toNat - H.nx.toNat < n then (if (S (k.toNat - H.nx.toNat)).toNat ≤ m then none else ψ (S (k.toNat - H.nx.toNat))) else none := ⟨_, rfl⟩
 have hχo : ∀ k, k.toNat < H.nx.toNat → χ k = φ k := fun k hk => by rw [hχ]; exact if_pos hk
 have hχf : ∀ i, i < n → ¬ (S i).toNat ≤ m → χ (H.key i) = ψ (S i) := fun i hi hs => by
  rw [hχ]; simp only
  rw [Heap.toNat_key, if_neg (by omega), Nat.add_sub_cancel_left, if_pos hi, if_neg hs]
 have hle : φ.le χ := fun k a h => by rw [hχo k (hw.dom k a h)]; exact h
 have hlow : ∀ i, (S i).toNat ≤ m → ψ (S i) = φ (F i) := fun i hs => by
  rw [hE.phi (S i) (by rw [nx_small, ← hm]; omega), hFo i hs]
  show φ (rk κ H.nx (S i)) = φ (rk κ .z (S i))
  rw [rk_in (by rw [hF.len, ← hm]; exact hs) H.nx .z]
 have hχF : ∀ i, i < n → χ (F i) = ψ (S i) := fun i hi => by
  by_cases hs : (S i).toNat ≤ m
  ·rw [hχo _ (hFlt i hs), hlow i hs]
  ·rw [hFn i hs]; exact hχf i hi hs
 have hρ : ∀ (k : K) (a : At), k.toNat ≤ n → ψ (rk sel .z k) = some a → χ (rk κ' .z k) = some a := fun k a hk h => by
  have := k.toNat_pos
  have hi : k.toNat - 1 < n := by omega
  rw [rk_some (hSi _ hi)] at h
  rw [rk_some (hκi _ hi), hχF _ hi]; exact h
 have hfin : Fit M κ' bl' := by
  refine ⟨by rw [hκl, hn], ?_, fun k hk => ?_, hS.closed, fun i b k hb hk hl => ?_⟩
  ·rw [hκ]
   refine List.pairwise_map.2 ?_
   refine (List.pairwise_lt_range (n := n)).imp_of_mem fun {a b} ha hb hab e => ?_
   have := hinj a b (List.mem_range.1 ha) (List.mem_range.1 hb) e
   omega
  ·rw [hκ] at hk
   obtain ⟨i, hi, rfl⟩ := List.mem_map.1 hk
   have hi := List.mem_range.1 hi
   rw [hMn]
   by_cases hs : (S i).toNat ≤ m
   ·have := hFlt i hs; omega
   ·rw [hFn i hs, Heap.toNat_key]; omega
  ·obtain ⟨hi, rfl⟩ := hκb i k hk
   exact hMN i b hi hb hl
 have hren : ∀ b ∈ bl', ∀ a, BlkRel P ψ u a (b.ren (rk sel .z)) → BlkRel P χ u a (b.ren (rk κ' .z)) := fun b hb a h => by
  have h1 := h
  have t : b.ren (rk sel .z) = b.ren (rk sel G0.nx) := hS.ren hb _ _
  rw [t] at h1
  have h2 := h1.ren
  have t2 : b.ren (rk κ' .z) = b.ren (fun k => rk κ' .z k) := rfl
  refine BlkRel.fwd (φ := fun k => ψ (rk sel G0.nx k)) (fun k a hk => ?_) h2
  have hk : ψ (rk sel G0.nx k) = some a := hk
  by_cases hin : k.toNat ≤ n
  ·exact hρ k a hin (by rw [rk_in (by rw [hS.len, ← hn]; exact hin) .z G0.nx]; exact hk)
  ·rw [rk_none (List.getElem?_eq_none (by rw [hS.len, ← hn]; omega))] at hk
   exact absurd (hW.dom _ _ hk) (Nat.lt_irrefl _)
 have hold : ∀ k b a, k.toNat < H.nx.toNat → g k = none → H.get k = some b → φ k = some a → b.live → ¬ Owned (fun k => φ (rk κ H.nx k)) (hp0.ext bl) a.b := fun k b a hk hgn hb ha hl ho => by
  obtain ⟨i, c, k', a', h1, h2, h3, h4, h5, h6⟩ := hF.own ho
  exact hw.inj k' k _ b a' a (fun e => hg3 k hgn i c h1 (may_live h3) (by rw [← e]; exact h2)) h4 hb h5 ha (Blk.ren_live.2 (may_live h3)) hl h6 (Blk.ren_mayWrite.2 h3)
 have hownF : ∀ b, Owned (fun k => φ (rk κ H.nx k)) (hp0.ext bl) b → Owned φ H b := fun b ho => by
  obtain ⟨i, c, k', a', h1, h2, h3, h4, h5, h6⟩ := hF.own ho
  exact ⟨k', _, a', h4, Blk.ren_mayWrite.2 h3, h5, h6⟩
 have hkind : ∀ k b a, M.get k = some b → χ k = some a → b.live → (∃ i b', i < n ∧ bl'[i]? = some b' ∧ b'.live ∧ k = F i ∧ b = b'.ren (rk κ' .z) ∧ ψ (S i) = some a ∧ G0.get (S i) = some (b'.ren (rk sel .z))) ∨ (k.toNat < H.nx.toNat ∧ g k = none ∧ H.get k = some b ∧ φ k = some a) := fun k b a hb ha hl => by
  have fin : ∀ i b', i < n → bl'[i]? = some b' → b'.live → k = F i → b = b'.ren (rk κ' .z) → (∃ i b', i < n ∧ bl'[i]? = some b' ∧ b'.live ∧ k = F i ∧ b = b'.ren (rk κ' .z) ∧ ψ (S i) = some a ∧ G0.get (S i) = some (b'.ren (rk sel .z))) := fun i b' hi hb' hl' e1 e2 =>
   ⟨i, b', hi, hb', hl', e1, e2, by rw [← hχF i hi, ← e1]; exact ha, hS.blk i b' _ hb' (hSi i hi) hl'⟩
  rcases hMk k b hb with hk | ⟨i, hi, rfl⟩
  ·rw [hMo k hk] at hb
   cases hgk : g k with
   | none =>
    rw [hgk] at hb
    exact .inr ⟨hk, rfl, hb, by rw [← hχo k hk]; exact ha⟩
   | some c =>
    rw [hgk] at hb
    have hb : some c = some b := hb
    cases hb
    rcases hg2 k b hgk with ⟨i, b', h1, h2, h3, h4, h5, h6⟩ | ⟨rfl, _⟩
    ·exact .inl (fin i b' h1 h2 h3 h5.symm h6)
    ·exact hl.elim
  ·rw [hMf i hi] at hb
   by_cases hs : (S i).toNat ≤ m
   ·rw [if_pos hs] at hb; cases hb; exact hl.elim
   ·rw [if_neg hs] at hb
    have hbl : bl'[i]? = some (bl'[i]'(by rw [← hn]; exact hi)) := List.getElem?_eq_getElem _
    rw [hbl] at hb
    cases hb
    exact .inl (fin i _ hi hbl (Blk.ren_live.1 hl) (hFn i hs).symm rfl)
 have hin' : ∀ b, b ∈ bl' → True := fun _ _ => trivial
 have h0 : WRel0 P χ M u := by
  refine ⟨fun k a h => ?_, fun k b h => ?_, fun k b a hb ha => ?_, fun j k c d x y hjk hc hd hx hy lc ld hxy hmc => ?_, fun k a h => ?_⟩
  ·rw [hMn]
   rw [hχ] at h; simp only at h
   split at h
   ·omega
   ·split at h
    ·omega
    ·cases h
  ·rw [hMn]
   rcases hMk k b h with hk | ⟨i, hi, rfl⟩
   ·omega
   ·rw [Heap.toNat_key]; omega
  ·rcases Blk.dead_or b with rfl | hl
   ·trivial
   rcases hkind k b a hb ha hl with ⟨i, b', h1, h2, h3, h4, h5, h6, h7⟩ | ⟨h1, h2, h3, h4⟩
   ·rw [h5]
    exact hren b' (List.mem_of_getElem? h2) a (hW.blk _ _ a h7 h6)
   ·exact (BlkRel.congr (hE.keeps _ (hw.size k a h4) (hold k b a h1 h2 h3 h4 hl)) (hw.blk k b a h3 h4)).mono hle
  ·rcases hkind j c x hc hx lc with ⟨i, b', h1, h2, h3, h4, h5, h6, h7⟩ | ⟨h1, h2, h3, h4⟩
   ·rw [h5] at hmc
    have hmc' := Blk.ren_mayWrite.1 hmc
    rcases hkind k d y hd hy ld with ⟨i2, b2, g1, g2, g3, g4, g5, g6, g7⟩ | ⟨g1, g2, g3, g4⟩
    ·have hne : i ≠ i2 := fun e => hjk (by rw [h4, g4, e])
     have hne2 : S i ≠ S i2 := fun e => hne (hS.inj (hSi i h1) (by rw [e]; exact hSi i2 g1))
     exact hW.inj _ _ _ _ x y hne2 h7 g7 h6 g6 (Blk.ren_live.2 h3) (Blk.ren_live.2 g3) hxy (Blk.ren_mayWrite.2 hmc')
    ·have ho : Owned ψ G0 y.b := ⟨S i, _, x, h7, Blk.ren_mayWrite.2 hmc', h6, hxy⟩
     exact hold k d y g1 g2 g3 g4 ld (hE.own _ (hw.size k y g4) ho)
   ·rcases hkind k d y hd hy ld with ⟨i2, b2, g1, g2, g3, g4, g5, g6, g7⟩ | ⟨g1, g2, g3, g4⟩
    ·have ho : Owned ψ G0 x.b := ⟨S i2, _, y, g7, Blk.ren_mayWrite.2 (hmw b2 (List.mem_of_getElem? g2) g3), g6, hxy.symm⟩
     exact hold j c x h1 h2 h3 h4 lc (hE.own _ (hw.size j x h4) ho)
    ·exact hw.inj j k c d x y hjk h3 g3 h4 g4 lc ld hxy hmc
  ·rw [hχ] at h; simp only at h
   split at h
   ·exact Nat.lt_of_lt_of_le (hw.size k a h) hE.size
   ·split at h
    ·split at h
     ·cases h
     ·exact hW.size _ a h
    ·cases h
 have hext : Ext φ H w χ M u := by
  refine ⟨hχo, by rw [hMn]; omega, hE.size, fun b hb ho => hE.keeps b hb fun h => ho (hownF b h), fun k hk hn => ?_, fun b hb ho => ?_, hE.os, hE.tape, hE.output⟩
  ·rw [hMo k hk]
   cases hgk : g k with
   | none => rfl
   | some c =>
    exfalso
    rcases hg2 k c hgk with ⟨i, b', h1, h2, h3, h4, h5, h6⟩ | ⟨_, i, c', h1, h2, h3⟩
    ·have hpos := (S i).toNat_pos
     have hbl : bl[(S i).toNat - 1]? = some (bl[(S i).toNat - 1]'(by rw [← hm]; omega)) := List.getElem?_eq_getElem _
     rcases Blk.dead_or (bl[(S i).toNat - 1]'(by rw [← hm]; omega)) with e | hl
     ·rw [e] at hbl
      have := hop i (S i) b' (hSi i h1) hbl h2
      subst this
      exact h3
     ·exact hvis _ _ _ hbl hl (by rw [hSo i h4, h5]) hn
    ·exact hvis i c' k h1 h2 h3 hn
  ·obtain ⟨k, c, a, h1, h2, h3, h4⟩ := ho
   rcases hkind k c a h1 h3 (may_live h2) with ⟨i, b', g1, g2, g3, g4, g5, g6, g7⟩ | ⟨g1, g2, g3, g4⟩
   ·rw [g5] at h2
    exact hownF b (hE.own b hb ⟨S i, _, a, g7, Blk.ren_mayWrite.2 (Blk.ren_mayWrite.1 h2), g6, h4⟩)
   ·exact ⟨k, c, a, g3, h2, g4, h4⟩
 obtain ⟨hWM, hEM⟩ := hw.pack h0 hext
 refine ⟨χ, M, κ', hWM, hEM, ⟨hfin, fun i k h1 h2 => ?_, fun k b h1 h2 => ?_, by rw [hMn]; omega, hWM.top, fun k hk => ?_⟩, fun k a hk h => hρ k a (by rw [hn]; exact hk) h⟩
 ·have hi : i < n := by rw [hn, ← hS.len]; exact (List.getElem?_eq_some_iff.1 h1).1
  have e : k = S i := by rw [hSi i hi] at h1; exact (Option.some.inj h1).symm
  subst e
  rw [hκi i hi, hSo i (by rw [hm]; exact h2)]
 ·have hk := hw.top k b h1
  rw [hMo k hk]
  cases hgk : g k with
  | none => exact h1
  | some c =>
   exfalso
   rcases hg2 k c hgk with ⟨i, b', g1, g2, g3, g4, g5, g6⟩ | ⟨_, i, c', g1, g2, g3⟩
   ·have hpos := (S i).toNat_pos
    have hbl : bl[(S i).toNat - 1]? = some (bl[(S i).toNat - 1]'(by rw [← hm]; omega)) := List.getElem?_eq_getElem _
    rcases Blk.dead_or (bl[(S i).toNat - 1]'(by rw [← hm]; omega)) with e | hl
    ·rw [e] at hbl
     have := hop i (S i) b' (hSi i g1) hbl g2
     subst this
     exact g3
    ·exact h2 _ _ hbl hl (by rw [hSo i g4, g5])
   ·exact h2 i c' g1 g2 g3
 ·rw [hκ] at hk
  obtain ⟨i, hi, rfl⟩ := List.mem_map.1 hk
  by_cases hs : (S i).toNat ≤ m
  ·exact .inl (List.mem_of_getElem? (hSo i hs))
  ·exact .inr (by rw [hFn i hs, Heap.toNat_key]; omega)
theorem FnOk.frame {f : FuncId} {args : List AV} {v1 : AV} {κ sel : List K} {bl bl' : List Blk} (h : FnOk P f args (hp0.ext bl) fun v G => v = v1.ren (rk sel .z) ∧ Fit G sel bl') (hF : Fit H κ bl)
  (hr : reachB bl .z (AV.keyss args) = true) (hka : ∀ k ∈ AV.keyss args, k.toNat ≤ bl.length) (hkv : ∀ k ∈ v1.keys, k.toNat ≤ bl'.length) (hmw : ∀ b ∈ bl', b.live → b.mayWrite)
  (hop : ∀ (i : Nat) (k : K) (b : Blk), sel[i]? = some k → bl[k.toNat - 1]? = some .dead → bl'[i]? = some b → b = .dead) :
  FnOk P f (AV.rens (rk κ .z) args) H fun v G => ∃ κ', v = v1.ren (rk κ' .z) ∧ Framed H κ bl sel bl' G κ' := by
 intro φ w args' ha hw
 rw [AV.rens_congr (σ := rk κ H.nx) fun k hk => rk_in (by rw [hF.len]; exact hka k hk) .z H.nx] at ha
 have ha2 := ha.ren
 have hw2 := WRel.small (top := H.nx) hF (Nat.le_refl _) hw
 have hvis : ∀ (i : Nat) (b : Blk) (k : K), bl[i]? = some b → b.live → κ[i]? = some k → φ k ≠ none := fun i b k hb hl hk => by
  have := reach_vis (P := P) (w := w) (φ := φ) (κ := κ) (top := H.nx) bl 0 .z (AV.keyss args) rfl hr (fun j hj => ha2.keys_some j hj) (fun j b hj hl a ha' => by
   rw [Nat.zero_add] at ha'
   have e : (hp0.key j).toNat - 1 = j := by rw [hp0_key]; omega
   have hk : κ[j]? = some (κ[j]'(by rw [hF.len]; exact (List.getElem?_eq_some_iff.1 hj).1)) := List.getElem?_eq_getElem _
   rw [rk_some (by rw [e]; exact hk)] at ha'
   exact hw.blk _ _ a (hF.blkT H.nx j b _ hj hk hl) ha') i b hb hl
  rw [Nat.zero_add, rk_some (j := k) (by rw [hp0_key]; exact hk)] at this
  exact this
 refine (h _ w args' ha2 hw2).mono ?_
 rintro e u ⟨v, G0, ⟨rfl, hS⟩, ψ, v', he, hv, hW, hE⟩
 obtain ⟨χ, M, κ', h1, h2, h3, h4⟩ := frame_rel hw hF hvis hW hE hS hmw hop
 refine ⟨_, M, ⟨κ', rfl, h3⟩, χ, v', he, ?_, h1, h2⟩
 rw [AV.ren_congr (σ := rk sel G0.nx) fun k hk => rk_in (by rw [hS.len]; exact hkv k hk) .z G0.nx] at hv
 refine VRel.fwd (φ := fun k => ψ (rk sel G0.nx k)) (fun k a hk => ?_) hv.ren
 have hk : ψ (rk sel G0.nx k) = some a := hk
 by_cases hin : k.toNat ≤ bl'.length
 ·exact h4 k a hin (by rw [rk_in (by rw [hS.len]; exact hin) .z G0.nx]; exact hk)
 ·rw [rk_none (List.getElem?_eq_none (by rw [hS.len]; omega))] at hk
  exact absurd (hW.dom _ _ hk) (Nat.lt_irrefl _)
noncomputable def nodupB (l : List K) : Bool := List.rec (motive := fun _ => Bool) true (fun k l ih => bif' (memK k l) false ih) l
theorem memK_iff {k : K} {l : List K} (h : k ∈ l) : memK k l = true := by
 induction l with
 | nil => cases h
 | cons x l ih =>
  show bif' (K.beq k x) true (memK k l) = true
  cases hb : K.beq k x with
  | true => rfl
  | false =>
   rcases List.mem_cons.1 h with rfl | h
   ·rw [(K.beq_iff k k).2 rfl] at hb; cases hb
   ·exact ih h
theorem nodupB_ok : ∀ {l : List K}, nodupB l = true → l.Nodup
 | [], _ => List.nodup_nil
 | k :: l, h => by
  have h : bif' (memK k l) false (nodupB l) = true := h
  cases hm : memK k l with
  | true => rw [hm] at h; cases h
  | false =>
   rw [hm] at h
   refine List.nodup_cons.2 ⟨fun hk => ?_, nodupB_ok h⟩
   rw [memK_iff hk] at hm; cases hm
noncomputable def allB {α : Type} (f : α → Bool) (l : List α) : Bool := List.rec (motive := fun _ => Bool) true (fun x _ ih => bif' (f x) ih false) l
theorem allB_ok {α : Type} {f : α → Bool} : ∀ {l : List α}, allB f l = true → ∀ x ∈ l, f x = true
 | y :: l, h, x, hx => by
  have h : bif' (f y) (allB f l) false = true := h
  cases hy : f y with
  | false => rw [hy] at h; cases h
  | true =>
   rw [hy] at h
   rcases List.mem_cons.1 hx with rfl | hx
   ·exact hy
   ·exact allB_ok h x hx
noncomputable def isDead (b : Blk) : Bool := Blk.rec (motive := fun _ => Bool) true (fun _ _ _ => false) (fun _ => false) b
noncomputable def mayB (b : Blk) : Bool := Blk.rec (motive := fun _ => Bool) true (fun w _ _ => w) (fun _ => true) b
noncomputable def leK (n : Nat) (k : K) : Bool := Nat.ble k.toNat n
noncomputable def chkB (bl bl' : List Blk) (sel : List K) (args : List AV) (v1 : AV) : Bool :=
 bif' (Nat.beq sel.length bl'.length) (bif' (nodupB sel) (bif' (allB (fun b => allB (leK bl'.length) b.keysA) bl') (bif' (allB mayB bl') (bif' (reachB bl .z (AV.keyss args))
  (bif' (allB (leK bl.length) (AV.keyss args)) (bif' (allB (leK bl'.length) v1.keys) (allB (fun p => bif' (Option.rec (motive := fun _ => Bool) false (fun b => isDead b) (bl[p.1.toNat - 1]?)) (isDead p.2) true) (sel.zip bl')) false) false) false) false) false) false) false
noncomputable def runL (r : RC) (sel : List K) (bl' : List Blk) : Option (AV × Bool × List (Option Blk)) :=
 RC.rec (motive := fun _ => Option (AV × Bool × List (Option Blk))) none (fun v G => some (v, allB (fun k => Nat.blt k.toNat G.nx.toNat) sel, (sel.zip bl').map fun p => bif' (isDead p.2) none (G.get p.1))) r
noncomputable def wantL (sel : List K) (bl' : List Blk) : List (Option Blk) := (sel.zip bl').map fun p => bif' (isDead p.2) none (some (p.2.ren (rk sel .z)))
theorem bif_split {a b : Bool} (h : bif' a b false = true) : a = true ∧ b = true := by cases a <;> simp_all [bif']
theorem FnOk.run {X : Orc} (hX : GoodX P X) {n : Nat} {f : FuncId} {args : List AV} {bl bl' : List Blk} {sel κ : List K} {v1 : AV} (hc : chkB bl bl' sel args v1 = true)
  (hr : runL (evFn P X n f args (hp0.ext bl)) sel bl' = some (v1.ren (rk sel .z), true, wantL sel bl')) (hF : Fit H κ bl) :
  FnOk P f (AV.rens (rk κ .z) args) H fun v G => ∃ κ', v = v1.ren (rk κ' .z) ∧ Framed H κ bl sel bl' G κ' := by
 obtain ⟨c1, hc⟩ := bif_split hc
 obtain ⟨c2, hc⟩ := bif_split hc
 obtain ⟨c3, hc⟩ := bif_split hc
 obtain ⟨c4, hc⟩ := bif_split hc
 obtain ⟨c5, hc⟩ := bif_split hc
 obtain ⟨c6, hc⟩ := bif_split hc
 obtain ⟨c7, c8⟩ := bif_split hc
 have hlen := Nat.eq_of_beq_eq_true c1
 have hmw : ∀ b ∈ bl', b.live → b.mayWrite := fun b hb hl => by
  have := allB_ok c4 b hb
  cases b with
  | dead => exact hl.elim
  | row wr esz rows => exact this
  | map es => trivial
 refine FnOk.frame ?_ hF c5 (fun k hk => Nat.le_of_ble_eq_true (allB_ok c6 k hk)) (fun k hk => Nat.le_of_ble_eq_true (allB_ok c7 k hk)) hmw fun i k b h1 h2 h3 => ?_
 ·cases hev : evFn P X n f args (hp0.ext bl) with
  | fail => rw [hev] at hr; cases hr
  | ok v G =>
   rw [hev] at hr
   have hr : some (v, allB (fun k => Nat.blt k.toNat G.nx.toNat) sel, (sel.zip bl').map fun p => bif' (isDead p.2) none (G.get p.1)) = some (v1.ren (rk sel .z), true, wantL sel bl') := hr
   simp only [Option.some.injEq, Prod.mk.injEq] at hr
   obtain ⟨r1, r2, r3⟩ := hr
   refine (FnOk.of_ev hX hev).mono ?_
   rintro v' G' ⟨rfl, rfl⟩
   refine ⟨r1, hlen, nodupB_ok c2, fun k hk => ?_, fun b hb k hk => Nat.le_of_ble_eq_true (allB_ok (allB_ok c3 b hb) k hk), fun i b k hb hk hl => ?_⟩
   ·have := allB_ok r2 k hk
    have h2 : Nat.ble (k.toNat + 1) G'.nx.toNat = true := this
    exact Nat.le_of_ble_eq_true h2
   ·have hz : (sel.zip bl')[i]? = some (k, b) := by rw [List.getElem?_zip_eq_some]; exact ⟨hk, hb⟩
    have := congrArg (fun l => l[i]?) r3
    simp only [wantL, List.getElem?_map, hz, Option.map_some] at this
    have hd : isDead b = false := by cases b with
     | dead => exact hl.elim
     | row _ _ _ => rfl
     | map _ => rfl
    rw [hd] at this
    exact Option.some.inj this
 ·have hz : (sel.zip bl')[i]? = some (k, b) := by rw [List.getElem?_zip_eq_some]; exact ⟨h1, h3⟩
  have := allB_ok c8 (k, b) (List.mem_of_getElem? hz)
  simp only [h2] at this
  have : isDead b = true := this
  cases b with
  | dead => rfl
  | row _ _ _ => cases this
  | map _ => cases this
end Go.Ev
namespace Go.Ev
variable {P : Program} {H : Heap}
open Classical in
noncomputable def EC (P : Program) (R : FuncId → List AV → Heap → AV → Heap → Prop) : FuncId → List AV → Heap → RC := fun f args H =>
 if h : ∃ v X, FnOk P f args H (fun r G => r = v ∧ G = X) ∧ R f args H v X then .ok h.choose h.choose_spec.choose else .fail
theorem good_EC (P : Program) (R : FuncId → List AV → Heap → AV → Heap → Prop) : Ev.Good P (EC P R) := by
 intro f args H r G he φ w args' ha hw
 refine (?_ : FnOk P f args H fun v' G' => v' = r ∧ G' = G).one φ w args' ha hw
 unfold EC at he
 split at he
 ·rename_i h
  have := h.choose_spec.choose_spec.1
  cases he
  exact this
 ·cases he
theorem EC_ex {R : FuncId → List AV → Heap → AV → Heap → Prop} {f : FuncId} {args : List AV} {v : AV} {X : Heap} (h1 : FnOk P f args H fun r G => r = v ∧ G = X) (h2 : R f args H v X) : ∃ v X, EC P R f args H = .ok v X ∧ R f args H v X := by
 have h : ∃ v X, FnOk P f args H (fun r G => r = v ∧ G = X) ∧ R f args H v X := ⟨v, X, h1, h2⟩
 exact ⟨_, _, by unfold EC; rw [dif_pos h], h.choose_spec.choose_spec.2⟩
end Go.Ev
namespace Go.Proofs
open Go Go.Ev
variable {H : Heap}
def Rel (s t : Sh) : Prop := sameSh s t ∧ (s.evs = [] → s.ev = .nils)
theorem Rel.cop {s t : Sh} (h : Rel s t) (a b c : K) : Rel (s.cop a b c) t := ⟨h.1, fun e => by
 have e : s.evs = [] := e
 show zV (nilB s.ev) b 4 s.evs.length = .nils
 rw [h.2 e, e]; rfl⟩
theorem Rel.evV {s t : Sh} (h : Rel s t) (a b c : K) : (s.cop a b c).ev = outV b 4 s.evs.length := by
 show zV (nilB s.ev) b 4 s.evs.length = outV b 4 s.evs.length
 cases he : s.evs with
 | nil => rw [h.2 he]; rfl
 | cons x l => rfl
theorem Rel.small {s t : Sh} (h : Rel s t) (ht : smallS t) : smallS s := by
 obtain ⟨h1, h2, h3, h4, h5, h6, h7, h8⟩ := h.1
 exact ⟨by rw [h8]; exact ht.b, by rw [h6]; exact ht.c, by rw [h7]; exact ht.e, by rw [h8]; exact ht.d⟩
theorem Rel.sh {s t : Sh} (h : Rel s t) (ht : isSh t) : isSh s := isSh_same h.1 ht
theorem Rel.find {s t : Sh} (h : Rel s t) {key : List Nat} (ht : findQ key t = true) : findQ key s = true := by
 obtain ⟨h1, h2, h3, h4, h5, h6, h7, h8⟩ := h.1
 unfold findQ at ht ⊢
 rwa [h5, h3, h4]
def okW (w : Option (K × List (List AV))) (H : Heap) : Prop := ∀ k rows, w = some (k, rows) → H.get k = some (.row true 3 rows)
theorem okW.ext {w : Option (K × List (List AV))} (hok : H.ok) (h : okW w H) (L : List Blk) : okW w (H.ext L) := fun k rows e => Heap.get_ext_old hok (h k rows e) L
def opL (kd : Int) (key to val : List Nat) (n : Int) (wv : AV) : List AV := [.int .i64 kd, .str key, .str to, .str val, .int .i64 n, wv]
def reqL (ses id : Int) (o : List AV) : List AV := [.int .i64 2, .int .i64 ses, .int .i64 id, .int .i64 0, .int .i64 0, .int .i64 0] ++ (o ++ [.str [], .str [], .nils, .nils])
structure Does (ses id kd : Int) (key to val : List Nat) (n : Int) (wv : AV) (w : Option (K × List (List AV))) (fk : List Nat) (s t : Sh) (av : Int) : Prop where
 does : ∀ (H : Heap) (x : Sh) (ke : K), H.ok → x.ok H → Rel x s → x.ev = outV ke 4 x.evs.length → okW w H → ∃ y L, FnOk Tryz.prog 82 [.agg x.enc, .int .i64 ses, .int .i64 id, .agg (opL kd key to val n wv)] H (fun r G => r = .tup [.agg y.enc, .agg [.int .i64 0, .str [], .int .i64 av, .nils], .int .i64 0] ∧ G = H.ext L) ∧ y.ok (H.ext L) ∧ Rel y t
 fkey : ∀ H : Heap, H.ok → okW w H → FnOk Tryz.prog 80 [.agg (opL kd key to val n wv)] H fun r G => r = .str fk ∧ G = H
 wri : ∀ H : Heap, H.ok → okW w H → FnOk Tryz.prog 83 [.agg (opL kd key to val n wv)] H fun r G => r = .bool true ∧ G = H
 find : findQ fk s = true
 sh : isSh s
 small : smallS s
 small2 : smallS t
 id1 : s.id = t.id
section
variable {G : Heap} {k : K} {lv gv : AV} {gs : List Gn} {s t0 s0 : Sh} {ses id kd n av : Int} {key to val fk : List Nat} {wv : AV} {w : Option (K × List (List AV))}
theorem f110_askE (D : Does ses id kd key to val n wv w fk s0 t0 av) (h : isHd G k lv gv [s] gs) (hR : Rel s s0) (hw : okW w G) : ∃ X, FnOk Tryz.prog 110 [.ptr k 0, .agg (reqL ses id (opL kd key to val n wv))] G (fun r G' => r = .tup [.agg [.int .i64 0, .str [], .int .i64 av, .nils], .nili] ∧ G' = X) ∧ (∃ lv' t, isHd X k lv' gv [t] gs ∧ Rel t t0) ∧ Nx k G X := by
 have hso := h.each s (by simp)
 obtain ⟨L0, hL0⟩ : ∃ L0, L0 = [Blk.row true 16 [reqL ses id (opL kd key to val n wv)], .row true 4 [zA], zB (nilB s.cv) 5 (s.cells.map Cell.enc), zB (nilB s.ev) 4 (s.evs.map Evn.enc), zB (nilB s.dv) 6 (s.done.map Dn.enc), .row true 8 [(s.cop (G.key 2) (G.key 3) (G.key 4)).enc]] := ⟨_, rfl⟩
 obtain ⟨t, L, hx, haok, hPt⟩ := D.does (G.ext L0) (s.cop (G.key 2) (G.key 3) (G.key 4)) _ (Heap.ok_ext h.ok _) (by rw [hL0]; exact Sh.cop_ok hso rfl rfl rfl) (hR.cop _ _ _) (hR.evV _ _ _) (hw.ext h.ok _)
 obtain ⟨M, hM⟩ : ∃ M, M = (G.ext L0).ext L := ⟨_, rfl⟩
 rw [← hM] at hx haok
 rw [hL0] at hM
 have htsm := hPt.small D.small2
 have htid : s.id = t.id := hR.1.1.trans (D.id1.trans hPt.1.1.symm)
 have hMok : M.ok := by rw [hM]; exact Heap.ok_ext (Heap.ok_ext h.ok _) _
 have e1 := get_of_ext hM (i := 1) rfl
 have e5 := get_of_ext hM (i := 5) rfl
 have hset := set_of_ext hM (i := 5) (Nat.lt_of_sub_eq_succ rfl)
 have g1 := fun L => Heap.get_ext_old hMok e1 L
 have s5 := fun b (l : List Blk) (α : Type) (c' : Heap → α) => Heap.setC_here hMok e5 b l c'
 have k5 := fun b (l : List Blk) => Heap.get_set_here hMok e5 b l
 have g5 := fun L => Heap.get_ext_old hMok e5 L
 have hh : ∀ b l, isHd ((M.set (G.key 5) b).ext l) k lv gv [s] gs := fun b l => by
  obtain ⟨M2, e⟩ := hset b l
  rw [e]
  exact h.ext M2
 have hn : ∀ b l, Nx k G ((M.set (G.key 5) b).ext l) := fun b l => by
  obtain ⟨M2, e⟩ := hset b l
  rw [e]
  exact Nx.ext h.ok M2
 have ha : ∀ b l, t.ok ((M.set (G.key 5) b).ext l) := fun b l => ⟨(haok.c.set e5 (by decide)).ext l, (haok.e.set e5 (by decide)).ext l, (haok.d.set e5 (by decide)).ext l, bareL.ok htsm.b _, haok.cl, haok.el, haok.dl⟩
 have hne : G.key 5 ≠ G.key 1 := fun e => by
  have := congrArg K.toNat e
  rw [Heap.toNat_key, Heap.toNat_key] at this
  omega
 have hg1 : ∀ b l, ((M.set (G.key 5) b).ext l).get (G.key 1) = _ := fun b l => Heap.get_set_there hMok e1 hne b l
 have hg0 : ∀ b x, ((M.set (G.key 5) b).ext [x]).get (M.key 0) = some x := fun b x => Heap.get_key_set (Nat.zero_lt_succ _)
 obtain ⟨M3, hx3, ⟨lv3, h3⟩, n3⟩ := f174_sameE (s := t) (hh (.row true 8 [t.enc]) [.row true 4 [[.int .i64 0, .str [], .int .i64 av, .nils]]]) htid (ha _ _) htsm
 have hMk : k ≠ M.key 0 := by
  have hMG := h.ok _ _ h.row
  rintro rfl
  have h1 := hMok _ _ (by rw [hM, Heap.ext_append]; exact Heap.get_ext_old h.ok h.row _)
  rw [Heap.toNat_key] at h1
  omega
 have q0 := n3.keep (M.key 0) _ hMk (hg0 _ _)
 have q1 := n3.keep (G.key 1) _ (ne_key h.ok h.row 1) (hg1 _ _)
 have r0 := fun L => Heap.get_ext_old h3.ok q0 L
 have r1 := fun L => Heap.get_ext_old h3.ok q1 L
 have s1 := fun b (l : List Blk) (α : Type) (c' : Heap → α) => Heap.setC_here h3.ok q1 b l c'
 have k1 := fun b (l : List Blk) => Heap.get_set_here h3.ok q1 b l
 refine ⟨(M3.set (G.key 1) (.row true 4 [[.int .i64 0, .str [], .int .i64 av, .nils]])).ext [], ?_, ⟨lv3, t, (h3.cell q1 _).ext [], hPt⟩, ((hn _ _).trans n3).cell h.ok h3.ok q1 _ _⟩
 refine FnOk.of_WW Tryz.func110 rfl C110ok R110ok E0 good_E0 ?_
 have fk := fun H ho hw => D.fkey H ho hw
 simp only [opL] at fk hx
 simp only [go_sem, C110, reqL, opL, List.cons_append, List.nil_append]
 refine CL.of (fk _ (Heap.ok_ext h.ok _) (hw.ext h.ok _)) ?_
 rintro _ G' ⟨rfl, hG⟩; rw [hG]; clear hG
 simp only [go_sem]
 refine CL.of (f79_yes (h.ext _) _ (i := 0) (idx_one (hR.find D.find)) rfl) ?_
 rintro _ G' ⟨rfl, hG⟩; rw [hG]; clear hG
 simp only [go_sem, Sh.cop, Sh.enc, copB, Heap.key_ext]
 rw [hL0] at hx
 simp only [reqL, opL, List.cons_append, List.nil_append] at hx
 refine CL.of hx ?_
 rintro _ G' ⟨rfl, hG⟩; rw [hG]; clear hG
 refine WW.nil ?_
 simp only [go_sem, Sh.enc, g5, s5, k5]
 refine CL.of hx3 ?_
 rintro _ G' ⟨rfl, hG⟩; rw [hG]; clear hG
 refine WW.nil ?_
 simp only [go_sem, r0, r1, s1, k1]
theorem f44_askE (D : Does ses id kd key to val n wv w fk s0 t0 av) (h : isHd G k lv gv [s] gs) (hR : Rel s s0) (hw : okW w G) : ∃ X, FnOk Tryz.prog 44 [.ptr k 0, .agg (reqL ses id (opL kd key to val n wv))] G (fun r G' => r = .tup [.agg [.int .i64 0, .str [], .int .i64 av, .nils], .nili] ∧ G' = X) ∧ (∃ lv' t, isHd X k lv' gv [t] gs ∧ Rel t t0) ∧ Nx k G X := by
 obtain ⟨L0, hL0⟩ : ∃ L0, L0 = [Blk.row true 16 [reqL ses id (opL kd key to val n wv)], .row true 4 [zA], .row true 2 [[lv, gv]], .row true 4 [zA]] := ⟨_, rfl⟩
 obtain ⟨G1, hx, ⟨lv', t, hhd, hPt⟩, hnx⟩ := f110_askE D (h.ext L0) hR (hw.ext h.ok _)
 have e1 := hnx.keep (G.key 1) _ (ne_key h.ok h.row 1) (by rw [hL0]; exact get_lit rfl)
 have e3 := hnx.keep (G.key 3) _ (ne_key h.ok h.row 3) (by rw [hL0]; exact get_lit rfl)
 have g3 := fun L => Heap.get_ext_old hhd.ok e3 L
 have s3 := fun b (l : List Blk) (α : Type) (c' : Heap → α) => Heap.setC_here hhd.ok e3 b l c'
 have k3 := fun b (l : List Blk) => Heap.get_set_here hhd.ok e3 b l
 have hne : G.key 3 ≠ G.key 1 := fun e => by
  have := congrArg K.toNat e
  rw [Heap.toNat_key, Heap.toNat_key] at this
  omega
 have o2 : ∀ b, (G1.set (G.key 3) b).ok := fun b => Heap.ok_set hhd.ok e3
 have e1' : ∀ b, (G1.set (G.key 3) b).get (G.key 1) = some (.row true 4 [[.int .i64 0, .str [], .int .i64 0, .nils]]) := fun b => by
  have := Heap.get_set_there hhd.ok e1 hne b []
  rwa [Heap.ext_nil] at this
 have g1 := fun b L => Heap.get_ext_old (o2 b) (e1' b) L
 have s1 := fun b b' (l : List Blk) (α : Type) (c' : Heap → α) => Heap.setC_here (o2 b) (e1' b) b' l c'
 have k1 := fun b b' (l : List Blk) => Heap.get_set_here (o2 b) (e1' b) b' l
 have hn3 : ∀ b, Nx k G (G1.set (G.key 3) b) := fun b => by
  have := ((Nx.ext h.ok _).trans hnx).cell h.ok hhd.ok e3 b []
  rwa [Heap.ext_nil] at this
 have hk' : ∀ L, (G.ext L).get k = _ := fun L => Heap.get_ext_old h.ok h.row L
 refine ⟨_, ?a, ⟨lv', t, ((hhd.cell e3 ?b).cell (e1' ?b) ?c).ext ?d, hPt⟩, (hn3 ?b).cell h.ok (o2 ?b) (e1' ?b) ?c ?d⟩
 rw [hL0] at hx
 simp only [reqL, opL, List.cons_append, List.nil_append] at hx
 refine FnOk.of_WW Tryz.func44 rfl C44ok R44ok E0 good_E0 ?_
 simp only [go_sem, C44, hk', reqL, opL, List.cons_append, List.nil_append]
 refine CL.of hx ?_
 rintro _ G' ⟨rfl, hG⟩; rw [hG]; clear hG
 refine WW.nil ?_
 simp only [go_sem, g3, s3, k3]
 refine CL.of (f113_none _) ?_
 rintro _ G' ⟨rfl, hG⟩; rw [hG]; clear hG
 simp only [go_sem]
 refine CL.of (f65_ok none 10) ?_
 rintro _ G' ⟨rfl, hG⟩; rw [hG]; clear hG
 simp only [go_sem, g3, s3, k3, g1, s1, k1]
 exact rfl
end
end Go.Proofs
namespace Go.Proofs
open Go Go.Ev
def sameC (a b : Cell) : Prop := a.key = b.key ∧ a.value = b.value ∧ a.ver = b.ver ∧ a.del = b.del
theorem sameC.trans {a b c : Cell} (h : sameC a b) (g : sameC b c) : sameC a c := ⟨h.1.trans g.1, h.2.1.trans g.2.1, h.2.2.1.trans g.2.2.1, h.2.2.2.trans g.2.2.2⟩
theorem flo_same (e : Evn) (c : Cell) : sameC (flo e c) c := by
 unfold flo
 split <;> exact ⟨rfl, rfl, rfl, rfl⟩
theorem getL_flo (e : Evn) (k : List Nat) : ∀ cs : List Cell, sameC (getL (cs.map (flo e)) k).1 (getL cs k).1
 | [] => ⟨rfl, rfl, rfl, rfl⟩
 | c :: cs => by
  have hk := (flo_same e c).1
  rw [List.map_cons, getL, getL, hk]
  split
  ·exact flo_same e c
  ·exact getL_flo e k cs
theorem getL_keep (k : List Nat) : ∀ (l : List Evn) (cs : List Cell), sameC (getL (keepC l cs) k).1 (getL cs k).1
 | [], cs => ⟨rfl, rfl, rfl, rfl⟩
 | e :: l, cs => (getL_keep k l (cs.map (flo e))).trans (getL_flo e k cs)
theorem mem_keep {c : Cell} : ∀ {l : List Evn} {cs : List Cell}, c ∈ keepC l cs → ∃ d ∈ cs, sameC c d
 | [], cs, h => ⟨c, h, rfl, rfl, rfl, rfl⟩
 | e :: l, cs, h => by
  obtain ⟨d, hd, hs⟩ := mem_keep (l := l) (cs := cs.map (flo e)) h
  obtain ⟨d', hd', rfl⟩ := List.mem_map.1 hd
  exact ⟨d', hd', hs.trans (flo_same e d')⟩
structure GdC (N : Nat) (s : Sh) : Prop where
 hd : s.id = 1 ∧ s.ep = 1 ∧ s.fr = [] ∧ s.to = [] ∧ s.frz = false
 keys : ∀ c ∈ s.cells, has [] [] c.key
 hist : isHist s.evs s.cells
 el : s.evs.length ≤ 24
 vers : ∀ k, (getL s.cells k).1.ver ≤ N
 cl : s.cells.length ≤ N
noncomputable def chgS (s : Sh) (k v : List Nat) (k0 k1 : K) : Sh := addS s (nextC s.cells k v false) (nextE s.cells k v false) k0 k1
theorem has_all {k : List Nat} (hk : isKey k) : has [] [] k := ⟨k_span, hk, not_ltS_nil k, .inl rfl⟩
theorem GdC.chg {N : Nat} {s : Sh} (h : GdC N s) (hN : N < 1000000000000) {k v : List Nat} (hk : isKey k) (hv : (v.length : Int) ≤ 12) (k0 k1 : K) : GdC (N + 1) (chgS s k v k0 k1) := by
 have hm : (getL s.cells k).1.ver < 1000000000000 := by have := h.vers k; omega
 have hw : refW s.cells (nextC s.cells k v false) = withL s.cells (nextC s.cells k v false) := refW_eq h.hist.1 _
 have hI : isHist (chgS s k v k0 k1).evs (chgS s k v k0 k1).cells := by
  have := hist_keep ((s.evs ++ [nextE s.cells k v false]).length - 24) (hist_put h.hist hk hv (d := false) (fun h => by cases h) hm)
  show isHist _ (keepC _ (refW s.cells _))
  rw [hw]
  exact this
 refine ⟨h.hd, fun c hc => ?_, hI, ?_, fun q => ?_, ?_⟩
 ·have hc : c ∈ keepC _ (refW s.cells (nextC s.cells k v false)) := hc
  obtain ⟨x, hx, hs⟩ := mem_keep hc
  rw [hw] at hx
  rw [hs.1]
  rcases withL_mem hx with rfl | hx
  ·exact has_all hk
  ·exact h.keys x hx
 ·show ((s.evs ++ [nextE s.cells k v false]).drop ((s.evs ++ [nextE s.cells k v false]).length - 24)).length ≤ 24
  rw [List.length_drop]; omega
 ·show (getL (keepC _ (refW s.cells (nextC s.cells k v false))) q).1.ver ≤ _
  rw [(getL_keep q _ _).2.2.1, hw]
  by_cases hq : q = (nextC s.cells k v false).key
  ·rw [hq, getL_withL_self]
   show (getL s.cells k).1.ver + 1 ≤ _
   have := h.vers k; omega
  ·rw [getL_withL_other hq]
   have := h.vers q; omega
 ·show (keepC _ (refW s.cells (nextC s.cells k v false))).length ≤ _
  rw [keepC_len, hw]
  have := withL_len (nextC s.cells k v false) s.cells
  have := h.cl
  omega
structure Gd (N : Nat) (P : Int → Int → Prop) (s : Sh) : Prop extends GdC N s where
 done : ∀ d ∈ s.done, okD d ∧ d.an.rv = .nils ∧ d.an.rows = [] ∧ P d.ses d.id
 up : upD s.done
 dl : s.done.length ≤ N
theorem putGD_mem {f : Dn → Dn → Dn} {x d : Dn} (hf : ∀ a, f a d = a ∨ f a d = d) : ∀ {l : List Dn}, x ∈ putGD f l d → x = d ∨ x ∈ l
 | [], h => by
  unfold putGD at h
  exact .inl (List.mem_singleton.1 h)
 | c :: l, h => by
  unfold putGD at h
  split at h
  ·rcases List.mem_cons.1 h with rfl | h
   ·exact .inr List.mem_cons_self
   ·exact (putGD_mem hf h).imp id (List.mem_cons_of_mem _)
  ·split at h
   ·rcases List.mem_cons.1 h with rfl | h
    ·rcases hf c with e | e
     ·rw [e]; exact .inr List.mem_cons_self
     ·exact .inl e
    ·exact .inr (List.mem_cons_of_mem _ h)
   ·rcases List.mem_cons.1 h with rfl | h
    ·exact .inl rfl
    ·exact .inr h
theorem withD_mem {l : List Dn} {d x : Dn} (h : x ∈ withD l d) : x = d ∨ x ∈ l := putGD_mem (fun a => by unfold lateD; split <;> simp) h
theorem stands_new {l : List Dn} {ses id : Int} (h : ∀ d ∈ l, d.ses = ses → d.id < id) : (stands l ses id).2 = 0 := by
 cases hf : findD l ses with
 | none => rw [stands_none hf]
 | some d =>
  obtain ⟨h1, h2⟩ := findD_mem hf
  rw [stands_some hf, if_pos (h d h1 h2)]
section
variable {N : Nat} {P : Int → Int → Prop} {s : Sh}
theorem Gd.bare (h : Gd N P s) : bareL s.done := fun d hd => ⟨(h.done d hd).2.1, (h.done d hd).2.2.1⟩
theorem Gd.small (h : Gd N P s) (hN : N < 1000) : smallS s := ⟨h.bare, by have := h.cl; omega, by have := h.el; omega, by have := h.dl; omega⟩
theorem Gd.sh (h : Gd N P s) : isSh s := by
 obtain ⟨e1, e2, e3, e4, e5⟩ := h.hd
 refine ⟨⟨by omega, by omega, by omega, by omega⟩, by rw [e3, e4]; exact k_span, by rw [e3, e4]; exact h.keys, by have := h.el; omega, h.hist, done_iff.2 ⟨fun d hd => (h.done d hd).1, h.up⟩⟩
theorem Gd.find (h : Gd N P s) {key : List Nat} (hk : isKey key) : findQ key s = true := by
 obtain ⟨e1, e2, e3, e4, e5⟩ := h.hd
 unfold findQ
 rw [e5, e3, e4, if_neg (by decide)]
 exact decide_eq_true (has_all hk)
theorem Gd.put (h : Gd N P s) (hN : N < 1000000) {k v : List Nat} (hk : isKey k) (hv : (v.length : Int) ≤ 12) {ses id : Int} (hs : 0 ≤ ses ∧ ses < 3) (hi : 1 ≤ id ∧ id < 1000) (k0 k1 k2 : K) :
  Gd (N + 1) (fun a b => P a b ∨ (a = ses ∧ b = id)) (askS s k v ses id k0 k1 k2) := by
 have hc := h.toGdC.chg (by omega) hk hv k0 k1
 have hv0 := h.vers k
 have hv1 := (cell_of h.hist k).2.1
 refine ⟨⟨hc.hd, hc.keys, hc.hist, hc.el, hc.vers, hc.cl⟩, fun d hd => ?_, withD_up h.up, ?_⟩
 ·rcases withD_mem hd with rfl | hd
  ·exact ⟨⟨⟨hs.1, hs.2, hi.1, by show id ≤ _; omega⟩, putA_is (by omega) (by omega)⟩, rfl, rfl, .inr ⟨rfl, rfl⟩⟩
  ·obtain ⟨g1, g2, g3, g4⟩ := h.done d hd
   exact ⟨g1, g2, g3, .inl g4⟩
 ·have := withD_len (l := s.done) (d := ⟨ses, id, putA ((getL s.cells k).1.ver + 1)⟩)
  have := h.dl
  show (withD _ _).length ≤ _
  omega
theorem Gd.mono {Q : Int → Int → Prop} (h : Gd N P s) (hQ : ∀ a b, P a b → Q a b) : Gd N Q s := ⟨h.toGdC, fun d hd => by
 obtain ⟨g1, g2, g3, g4⟩ := h.done d hd
 exact ⟨g1, g2, g3, hQ _ _ g4⟩, h.up, h.dl⟩
theorem gd_new : Gd 0 P (nS 1 1 [] [] false) := ⟨⟨⟨rfl, rfl, rfl, rfl, rfl⟩, fun c hc => absurd hc List.not_mem_nil, hist_nil, Nat.zero_le _, fun k => by show (0 : Int) ≤ 0; decide, Nat.le_refl _⟩, fun d hd => absurd hd List.not_mem_nil, List.Pairwise.nil, Nat.le_refl _⟩
theorem askS_rel {x s : Sh} (h : Rel x s) (k v : List Nat) (ses id : Int) (k0 k1 k2 j0 j1 j2 : K) : Rel (askS x k v ses id k0 k1 k2) (askS s k v ses id j0 j1 j2) := by
 obtain ⟨⟨h1, h2, h3, h4, h5, h6, h7, h8⟩, _⟩ := h
 refine ⟨⟨h1, h2, h3, h4, h5, ?_, ?_, ?_⟩, fun e => ?_⟩
 ·show keepC _ _ = keepC _ _
  rw [h6, h7]
 ·show List.drop _ _ = List.drop _ _
  rw [h6, h7]
 ·show withD _ _ = withD _ _
  rw [h6, h8]
 ·have e : (x.evs ++ [nextE x.cells k v false]).drop ((x.evs ++ [nextE x.cells k v false]).length - 24) = [] := e
  show outV k1 4 ((x.evs ++ [nextE x.cells k v false]).drop ((x.evs ++ [nextE x.cells k v false]).length - 24)).length = .nils
  rw [e]; rfl
theorem Gd.does (h : Gd N P s) (hN : N < 900) {k v : List Nat} (hk : isKey k) (hv : (v.length : Int) ≤ 12) {ses id : Int} (hs : 0 ≤ ses ∧ ses < 3) (hi : 1 ≤ id ∧ id < 1000) (hn : ∀ a b, P a b → a = ses → b < id) :
  Does ses id 2 k [] v 0 .nils none k s (askS s k v ses id .z .z .z) ((getL s.cells k).1.ver + 1) where
 does := fun H x ke _ hx hR hev _ => by
  obtain ⟨h1, h2, h3, h4, h5, h6, h7, h8⟩ := hR.1
  have hI : isHist x.evs x.cells := by rw [h6, h7]; exact h.hist
  have hcl := h.cl
  have hel := h.el
  have hdl := h.dl
  have hve : (getL x.cells k).1.ver < 1000000000000 := by have := h.vers k; rw [h6]; omega
  have hst : (stands x.done ses id).2 = 0 := stands_new fun d hd e => hn _ _ (h.done d (by rwa [h8] at hd)).2.2.2 e
  have hx1 := f82_put hx hev (by rw [h7]; omega) (by rw [h6]; omega) hk hv hI hve (by rw [h8]; omega) (by rw [h8]; exact h.up) (fun d hd => (h.done d (by rwa [h8] at hd)).2.2.1) hst
  refine ⟨_, _, by rw [h6] at hx1; exact hx1, ?_, askS_rel hR ..⟩
  refine askS_ok (by rw [refW_eq hI.1]; have := withL_leng (nextC x.cells k v false) x.cells; rw [h6] at this ⊢; omega) (by rw [h7]; omega) (Nat.lt_of_le_of_lt withD_len (by rw [h8]; omega)) hx.dok rfl rfl rfl
 fkey := fun H _ _ => f80_ok (kd := 2) (by decide) k (.str []) (.str v) (.int .i64 0) .nils
 wri := fun H _ _ => f83_put k v
 find := h.find hk
 sh := h.sh
 small := h.small (by omega)
 small2 := (h.put (by omega) hk hv hs hi .z .z .z).small (by omega)
 id1 := rfl
end
end Go.Proofs
namespace Go.Proofs
open Go Go.Ev K
@[go_sem] theorem call27 (a H) : callC Tryz.prog 27 a H = .call 27 a := callC_ok (by kernel_rfl) a H
@[go_sem] theorem call68 (a H) : callC Tryz.prog 68 a H = .call 68 a := callC_ok (by kernel_rfl) a H
noncomputable def C28 := mkC Tryz.prog Tryz.f28 93
theorem C28ok : CCok Tryz.prog Tryz.f28 93 C28 := mkC_ok _
@[go_sem] theorem call28 (a H) : callC Tryz.prog 28 a H = .call 28 a := callC_ok (by kernel_rfl) a H
theorem R28ok : resKs Tryz.prog Tryz.f28.results.toList = some [] := by kernel_rfl
noncomputable def C7 := mkC Tryz.prog Tryz.f7 53
theorem C7ok : CCok Tryz.prog Tryz.f7 53 C7 := mkC_ok _
@[go_sem] theorem call7 (a H) : callC Tryz.prog 7 a H = .call 7 a := callC_ok (by kernel_rfl) a H
theorem R7ok : resKs Tryz.prog Tryz.f7.results.toList = some [] := by kernel_rfl
noncomputable def C63 := mkC Tryz.prog Tryz.f63 31
theorem C63ok : CCok Tryz.prog Tryz.f63 31 C63 := mkC_ok _
@[go_sem] theorem call63 (a H) : callC Tryz.prog 63 a H = .call 63 a := callC_ok (by kernel_rfl) a H
theorem R63ok : resKs Tryz.prog Tryz.f63.results.toList = some [RK.tmp z.i, RK.tmp z.o.o] := by kernel_rfl
noncomputable def C24 := mkC Tryz.prog Tryz.f24 35
theorem C24ok : CCok Tryz.prog Tryz.f24 35 C24 := mkC_ok _
@[go_sem] theorem call24 (a H) : callC Tryz.prog 24 a H = .call 24 a := callC_ok (by kernel_rfl) a H
theorem R24ok : resKs Tryz.prog Tryz.f24.results.toList = some [RK.tmp z.i, RK.tmp z.o.o, RK.tmp z.o.i] := by kernel_rfl
noncomputable def C42 := mkC Tryz.prog Tryz.f42 34
theorem C42ok : CCok Tryz.prog Tryz.f42 34 C42 := mkC_ok _
@[go_sem] theorem call42 (a H) : callC Tryz.prog 42 a H = .call 42 a := callC_ok (by kernel_rfl) a H
theorem R42ok : resKs Tryz.prog Tryz.f42.results.toList = some [] := by kernel_rfl
noncomputable def C11 := mkC Tryz.prog Tryz.f11 61
theorem C11ok : CCok Tryz.prog Tryz.f11 61 C11 := mkC_ok _
@[go_sem] theorem call11 (a H) : callC Tryz.prog 11 a H = .call 11 a := callC_ok (by kernel_rfl) a H
theorem R11ok : resKs Tryz.prog Tryz.f11.results.toList = some [] := by kernel_rfl
noncomputable def C8 := mkC Tryz.prog Tryz.f8 13
theorem C8ok : CCok Tryz.prog Tryz.f8 13 C8 := mkC_ok _
@[go_sem] theorem call8 (a H) : callC Tryz.prog 8 a H = .call 8 a := callC_ok (by kernel_rfl) a H
theorem R8ok : resKs Tryz.prog Tryz.f8.results.toList = some [RK.cell z.i.i true 24] := by kernel_rfl
@[go_sem] theorem call6 (a H) : callC Tryz.prog 6 a H = .call 6 a := callC_ok (by kernel_rfl) a H
end Go.Proofs
namespace Go.Ev
variable {P : Program} {φ ψ : Phi} {H : Heap} {w u : World}
theorem FnOk.still {f : FuncId} {args : List AV} {R : AV → Prop} (h : FnOk P f args H fun v G => R v ∧ ∀ k b, H.get k = some b → b.live → G.get k = some b) (hr : ∀ v, R v → v.flat2 = true) : FnOk P f args H fun v G => R v ∧ G = H := by
 intro φ w args' ha hw
 refine (h φ w args' ha hw).mono ?_
 rintro e u ⟨v, G, ⟨hv0, hk⟩, ψ, v', he, hv, hwu, hE⟩
 have hnone : ∀ k, φ k = none → ∃ z, ψ z = none := fun _ _ => ⟨G.nx, by
  cases hz : ψ G.nx with
  | none => rfl
  | some a => exact absurd (hwu.dom _ _ hz) (Nat.lt_irrefl _)⟩
 obtain ⟨z, hz⟩ : ∃ z, ψ z = none := ⟨G.nx, by
  cases hz : ψ G.nx with
  | none => rfl
  | some a => exact absurd (hwu.dom _ _ hz) (Nat.lt_irrefl _)⟩
 obtain ⟨ρ, hρ⟩ : ∃ ρ : K → K, ∀ k, (φ k ≠ none → ρ k = k) ∧ (φ k = none → ρ k = z) := by
  classical
  exact ⟨fun k => if φ k = none then z else k, fun k => ⟨fun h => if_neg h, fun h => if_pos h⟩⟩
 have hco : (fun k => ψ (ρ k)) = φ := by
  funext k
  cases hk : φ k with
  | none => rw [(hρ k).2 hk]; exact hz
  | some a =>
   rw [(hρ k).1 (by rw [hk]; simp), hE.phi k (hw.dom k a hk), hk]
 have hblk : ∀ k b a, H.get k = some b → φ k = some a → BlkRel P φ u a b := fun k b a hb hka => by
  cases hl : b with
  | dead => trivial
  | row wr e rows =>
   have hlive : b.live := by rw [hl]; trivial
   have h1 := hwu.blk k b a (hk k b hb hlive) (by rw [hE.phi k (hw.dom k a hka)]; exact hka)
   have h2 : b.ren ρ = b := (hw.blk k b a hb hka).fix (fun j x hj => (hρ j).1 (by rw [hj]; simp)) hlive
   rw [← h2] at h1
   have h3 := h1.ren
   rw [hco, hl] at h3
   exact h3
  | map es =>
   have hlive : b.live := by rw [hl]; trivial
   have h1 := hwu.blk k b a (hk k b hb hlive) (by rw [hE.phi k (hw.dom k a hka)]; exact hka)
   have h2 : b.ren ρ = b := (hw.blk k b a hb hka).fix (fun j x hj => (hρ j).1 (by rw [hj]; simp)) hlive
   rw [← h2] at h1
   have h3 := h1.ren
   rw [hco, hl] at h3
   exact h3
 have hWR0 : WRel0 P φ H u := ⟨hw.dom, hw.top, hblk, hw.inj, fun k a h => Nat.lt_of_lt_of_le (hw.size k a h) hE.size⟩
 have hE2 : Ext φ H w φ H u := ⟨fun _ _ => rfl, Nat.le_refl _, hE.size, hE.keeps, fun _ _ _ => rfl, fun _ _ h => h, hE.os, hE.tape, hE.output⟩
 exact ⟨v, H, ⟨hv0, rfl⟩, φ, v', he, flat2_rel (hr v hv0) hv φ, ⟨hWR0, hE2.rom hw.rom⟩, hE2⟩
theorem FnOk.runF {X : Orc} (hX : GoodX P X) {n : Nat} {f : FuncId} {args : List AV} {bl : List Blk} {sel κ : List K} {v : AV} (hc : chkB bl bl sel args v = true)
  (hr : runL (evFn P X n f args (hp0.ext bl)) sel bl = some (v.ren (rk sel .z), true, wantL sel bl)) (hs : ∀ i, i < bl.length → sel[i]? = some (hp0.key i)) (hv : v.flat2 = true) (hv2 : ∀ ρ, v.ren ρ = v) (hF : Fit H κ bl) :
  FnOk P f (AV.rens (rk κ .z) args) H fun r G => r = v ∧ G = H := by
 refine FnOk.still (R := fun r => r = v) ((FnOk.run hX hc hr hF).mono ?_) (by rintro r rfl; exact hv)
 rintro r G ⟨κ', rfl, hG⟩
 refine ⟨hv2 _, fun k b hb hl => ?_⟩
 have hκ : κ' = κ := by
  refine List.ext_getElem? fun i => ?_
  by_cases hi : i < bl.length
  ·have := hG.stay i _ (hs i hi) (by rw [hp0_key]; exact hi)
   rw [this, hp0_key]; rfl
  ·rw [List.getElem?_eq_none (by rw [hG.fit.len]; omega), List.getElem?_eq_none (by rw [hF.len]; omega)]
 subst hκ
 by_cases hin : ∃ (i : Nat) (c : Blk), bl[i]? = some c ∧ c.live ∧ κ'[i]? = some k
 ·obtain ⟨i, c, h1, h2, h3⟩ := hin
  have e1 := hF.blk i c k h1 h3 h2
  rw [hb] at e1; cases e1
  exact hG.fit.blk i c k h1 h3 h2
 ·exact hG.keep k b hb fun i c h1 h2 h3 => hin ⟨i, c, h1, h2, h3⟩
end Go.Ev
namespace Go.Proofs
open Go Go.Ev
variable {H : Heap}
structure Wr where
 key : List Nat
 value : List Nat
 del : Bool
def Wr.enc (c : Wr) : List AV := [.str c.key, .str c.value, .bool c.del]
theorem f280_ok {v : AV} {l : List Wr} (hA : Arr H 3 v (l.map Wr.enc)) (hl : l.length ≤ 9223372036854775807) {g : FuncId} {caps : List AV} (hcall : ∀ args H, callC Tryz.prog g args H = .call g args)
  (hcaps : ∀ top σ, AV.ren (rho H top σ) (.fn (.func g) [] caps) = .fn (.func g) [] caps) {p : Wr → Prop} [DecidablePred p] (hg : ∀ c ∈ l, ∀ L, FnOk Tryz.prog g (.agg c.enc :: caps) (H.ext L) fun r G => r = .bool (decide (p c)) ∧ G = H.ext L) :
  FnOk Tryz.prog 280 [v, .fn (.func g) [] caps] H fun r G => (∃ n : Int, r = .int .i64 n ∧ (0 ≤ n ↔ ∃ c ∈ l, p c)) ∧ G = H := by
 refine FnOk.assume fun hok => ?_
 refine FnOk.drop (R := fun r => ∃ n : Int, r = .int .i64 n ∧ (0 ≤ n ↔ ∃ c ∈ l, p c)) ?_ (by rintro v ⟨n, rfl, _⟩ ρ; rw [AV.ren])
 refine FnOk.of_WW Tryz.func280 rfl C280ok R280ok E0 good_E0 ?_
 have hlen := fun G => hA.len G; simp only [List.length_map] at hlen; have hren := hA.ren
 simp only [go_sem, C280, hlen]
 refine LL.st good_E0 (fun i : Nat => l.length - i) (fun i => i ≤ l.length ∧ ∀ j d, j < i → l[j]? = some d → ¬ p d)
  (fun i => [(.z, v), ((.o .z), .fn (.func g) [] caps), ((.i (.i .z)), v), ((.o (.o (.o .z))), .int .i64 l.length), ((.i (.o (.o .z))), .int .i64 i)]) (fun i => []) ?_ 0 (σ := []) (Wk.of rfl (by decide) (by simp only [go_sem, hren, ↓hcaps]) (by simp only [go_sem])) ⟨Nat.zero_le _, fun j d h => absurd h (Nat.not_lt_zero _)⟩
 rintro i ⟨hi, hno⟩
 by_cases hlt : i < l.length
 ·obtain ⟨kk, r, ex', cap', wr, rows, hv, hrho, hgo, hrow⟩ := hA.at hok (j := i) (by rw [List.length_map]; exact hlt); simp only [List.length_map, List.getElem_map] at hv hrow; cases hv; have hget : l[i]? = some l[i] := List.getElem?_eq_getElem hlt; generalize l[i] = c at hrow hget; have hw := wrap_succ (n := i) (by omega); have hci : (i : Int) < (l.length : Int) := (by omega); have hsi : i + 1 ≤ l.length := (by omega)
  have hgc := hg c (List.mem_of_getElem? hget)
  simp only [Wr.enc] at hgc
  simp only [go_sem, hci, hsi, hgo, hrow, hw, Wr.enc, hcall]
  refine CL.bool (hgc _) (fun g => ?_) (fun g => ?_)
  ·simp only [go_sem]
   exact ⟨⟨_, rfl, fun _ => ⟨c, List.mem_of_getElem? hget, g⟩, fun _ => by omega⟩, _, rfl⟩
  ·simp only [go_sem, hw]
   refine ⟨i + 1, by show l.length - (i + 1) < l.length - i; omega, ⟨by omega, fun j d hj hd => ?_⟩, _, [], rfl, Wk.of rfl (by decide) (by simp only [go_sem, hren, hrho, ↓hcaps, hw]) (by simp only [go_sem])⟩
   rcases Nat.lt_or_ge j i with h | h
   ·exact hno j d h hd
   ·obtain rfl : j = i := by omega
    rw [hget] at hd; cases hd; exact g
 ·have hci : ¬ (i : Int) < (l.length : Int) := by omega
  simp only [go_sem, hci]
  refine ⟨⟨_, rfl, fun h => absurd h (by decide), ?_⟩, _, rfl⟩
  rintro ⟨d, hd, hb⟩
  obtain ⟨j, hj⟩ := List.mem_iff_getElem?.1 hd
  exact absurd hb (hno j d (by have := (List.getElem?_eq_some_iff.1 hj).1; omega) hj)
noncomputable instance (l : List Wr) (p : Wr → Prop) : Decidable (∃ c ∈ l, p c) := Classical.propDecidable _
theorem f238_ok {v : AV} {l : List Wr} (hA : Arr H 3 v (l.map Wr.enc)) (hl : l.length ≤ 9223372036854775807) {g : FuncId} {caps : List AV} (hcall : ∀ args H, callC Tryz.prog g args H = .call g args)
  (hcaps : ∀ top σ, AV.ren (rho H top σ) (.fn (.func g) [] caps) = .fn (.func g) [] caps) {p : Wr → Prop} [DecidablePred p] (hg : ∀ c ∈ l, ∀ L, FnOk Tryz.prog g (.agg c.enc :: caps) (H.ext L) fun r G => r = .bool (decide (p c)) ∧ G = H.ext L) :
  FnOk Tryz.prog 238 [v, .fn (.func g) [] caps] H fun r G => r = .bool (decide (∃ c ∈ l, p c)) ∧ G = H := by
 refine FnOk.drop (R := fun r => r = .bool (decide (∃ c ∈ l, p c))) ?_ (by rintro v rfl ρ; rw [AV.ren])
 refine FnOk.of_WW Tryz.func238 rfl C238ok R238ok E0 good_E0 ?_
 simp only [go_sem, C238]
 have h := f280_ok hA hl hcall hcaps hg
 rw [← Heap.ext_nil H] at h
 refine CL.of h ?_
 rintro _ _ ⟨⟨n, rfl, hn⟩, rfl⟩
 simp only [go_sem]
 exact ⟨fun h => ⟨bool_t (hn.1 h), [], rfl⟩, fun h => ⟨bool_f fun e => h (hn.2 e), [], rfl⟩⟩
theorem f239_ok {k : K} {wr : Bool} {s : Sh} (hk : H.get k = some (.row wr 8 [[.int .i64 s.id, .int .i64 s.ep, .str s.fr, .str s.to, .bool s.frz, s.cv, s.ev, s.dv]])) (c : Wr) :
  FnOk Tryz.prog 239 [.agg c.enc, .ptr k 0] H fun r G => r = .bool (decide (¬ has s.fr s.to c.key)) ∧ G = H := by
 refine FnOk.assume fun hok => ?_
 refine FnOk.drop (R := fun r => r = .bool (decide (¬ has s.fr s.to c.key))) ?_ (by rintro v rfl ρ; rw [AV.ren])
 refine FnOk.of_WW Tryz.func239 rfl C239ok R239ok E0 good_E0 ?_
 have hgo := Heap.get_ext_old hok hk
 simp only [go_sem, C239, Wr.enc, hgo]
 refine CL.bool (f57_ok s.fr s.to c.key) (fun g => ?_) (fun g => ?_)
 ·simp only [go_sem]
  exact ⟨bool_f fun h => h g, _, rfl⟩
 ·simp only [go_sem]
  exact ⟨bool_t g, _, rfl⟩
def wr3 (a b c v : List Nat) : List Wr := [⟨a, v, false⟩, ⟨b, v, false⟩, ⟨c, v, false⟩]
end Go.Proofs
