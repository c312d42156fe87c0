/- cut: what its functions answer, as an oracle; Split: walked. -/
import Derived.Test.YtomljpdjfobeoaaGreatDoorZ20
set_option linter.all false
set_option linter.all false
set_option maxRecDepth 100000
namespace Go.Proofs
open Go Go.Ev
variable {H : Heap}

section
variable {α : Type}
/-- the one that is so -/
noncomputable def theO (p : α → Prop) : Option α := open Classical in if h : ∃ x, p x then some (Classical.choose h) else none
theorem theO_eq {p : α → Prop} {x : α} (h : p x) (hu : ∀ y, p y → y = x) : theO p = some x := by
  unfold theO
  have hex : ∃ x, p x := ⟨x, h⟩
  rw [dif_pos hex]
  exact congrArg some (hu _ (Classical.choose_spec hex))
theorem theO_spec {p : α → Prop} {x : α} (h : theO p = some x) : p x := by
  unfold theO at h
  split at h
  · rename_i hex
    cases h
    exact Classical.choose_spec hex
  · cases h
noncomputable def ot (p : α → Prop) (c : α → RC) : RC := match theO p with | some x => c x | none => .fail
theorem ot_eq {p : α → Prop} {x : α} (h : p x) (hu : ∀ y, p y → y = x) (c : α → RC) : ot p c = c x := by
  unfold ot; rw [theO_eq h hu]
theorem ot_ok {p : α → Prop} {c : α → RC} {r : AV} {G : Heap} (h : ot p c = .ok r G) : ∃ x, p x ∧ c x = .ok r G := by
  unfold ot at h
  split at h
  · rename_i x hx
    exact ⟨x, theO_spec hx, h⟩
  · cases h
end
theorem Cell.enc_one {a b : Cell} (h : a.enc = b.enc) : a = b := by
  cases a; cases b; simp [Cell.enc] at h; simp [h]
theorem Evn.enc_one {a b : Evn} (h : a.enc = b.enc) : a = b := by
  cases a; cases b; simp [Evn.enc] at h; simp [h]
theorem cells_uniq {v : AV} {xs ys : List Cell} (h : Arr H 5 v (xs.map Cell.enc)) (h2 : Arr H 5 v (ys.map Cell.enc)) : xs = ys :=
  List.map_inj_right (fun _ _ => Cell.enc_one) |>.1 (Arr.uniq h h2 (by decide))
theorem evs_uniq {v : AV} {xs ys : List Evn} (h : Arr H 4 v (xs.map Evn.enc)) (h2 : Arr H 4 v (ys.map Evn.enc)) : xs = ys :=
  List.map_inj_right (fun _ _ => Evn.enc_one) |>.1 (Arr.uniq h h2 (by decide))
theorem dns_inj : ∀ {l m : List Dn}, l.map Dn.enc = m.map Dn.enc → allOk H l → allOk H m → l = m
  | [], [], _, _, _ => rfl
  | [], _ :: _, h, _, _ => by cases h
  | _ :: _, [], h, _, _ => by cases h
  | x :: l, y :: m, h, ha, hb => by
    rw [List.map_cons, List.map_cons] at h
    injection h with h1 h2
    have h3 := dns_inj h2 (fun d hd => ha d (by simp [hd])) (fun d hd => hb d (by simp [hd]))
    have hx := ha x (by simp)
    have hy := hb y (by simp)
    obtain ⟨xs, xi, xc, xv, xn, xr, xw⟩ := x
    obtain ⟨ys, yi, yc, yv, yn, yr, yw⟩ := y
    simp only [Dn.enc, List.cons.injEq, AV.int.injEq, AV.str.injEq, true_and, and_true] at h1
    obtain ⟨rfl, rfl, rfl, rfl, rfl, rfl⟩ := h1
    have : xr = yr := List.map_inj_right (fun _ _ => Rw.enc_one) |>.1 (Arr.uniq hx.1 hy.1 (by decide))
    rw [this, h3]
theorem Sh.uniq {s t : Sh} (h : s.enc = t.enc) (hs : s.ok H) (ht : t.ok H) : s = t := by
  obtain ⟨id, ep, fr, to, fz, cs, es, ds, cv, ev, dv⟩ := s
  obtain ⟨id', ep', fr', to', fz', cs', es', ds', cv', ev', dv'⟩ := t
  simp only [Sh.enc, List.cons.injEq, AV.int.injEq, AV.str.injEq, AV.bool.injEq, true_and, and_true] at h
  obtain ⟨rfl, rfl, rfl, rfl, rfl, rfl, rfl, rfl⟩ := h
  obtain rfl := cells_uniq hs.c ht.c
  obtain rfl := evs_uniq hs.e ht.e
  obtain rfl := dns_inj (Arr.uniq hs.d ht.d (by decide)) hs.dok ht.dok
  rfl
/-- what is asked of cut's functions -/
def A42 (H : Heap) (args : List AV) (s : Sh) : Prop := args = [.agg s.enc] ∧ s.ok H
def A45 (H : Heap) (args : List AV) (q : Sh × Int × List Nat × List Nat) : Prop := args = [.agg q.1.enc, .int .i64 q.2.1, .agg [.str q.2.2.1, .str q.2.2.2]] ∧ q.1.ok H ∧ q.1.done.length < 100000 ∧ q.1.evs.length < 100000
def A47 (args : List AV) (q : Option Int × Option Int) : Prop := args = [errV q.1, errV q.2]
def A51 (H : Heap) (args : List AV) (q : List Evn × List Evn) : Prop := ∃ k wr ex cap u v, args = [.slice k 0 2 1 ex cap] ∧ H.get k = some (.row wr 1 [[u], [v]]) ∧ k.toNat < H.nx.toNat ∧ Arr H 4 u (q.1.map Evn.enc) ∧ Arr H 4 v (q.2.map Evn.enc) ∧ q.1.length < 10000 ∧ q.2.length < 10000
def A52 (H : Heap) (args : List AV) (q : List Cell × List Cell) : Prop := ∃ k wr ex cap u v, args = [.slice k 0 2 1 ex cap] ∧ H.get k = some (.row wr 1 [[u], [v]]) ∧ k.toNat < H.nx.toNat ∧ Arr H 5 u (q.1.map Cell.enc) ∧ Arr H 5 v (q.2.map Cell.enc) ∧ q.1.length < 10000 ∧ q.2.length < 10000
def A50 (H : Heap) (args : List AV) (q : List Evn × List Cell) : Prop := ∃ k k', args = [outV k 4 q.1.length, outV k' 5 q.2.length, .int .i64 24] ∧ Arr H 4 (outV k 4 q.1.length) (q.1.map Evn.enc) ∧ Arr H 5 (outV k' 5 q.2.length) (q.2.map Cell.enc) ∧ q.1.length < 100000 ∧ q.2.length < 100000
noncomputable def fitsE (s : Sh) : Option Int := if isSh s ∧ ¬ s.frz = true then none else some 10
noncomputable def EP (f : FuncId) (args : List AV) (H : Heap) : RC :=
  match f with
  | 27 => ot (A42 H args) fun s => .ok (errV (fitsE s)) H
  | 31 => ot (A45 H args) fun q => .ok (.agg (partS q.1 q.2.1 q.2.2.1 q.2.2.2 (H.key 0) (H.key 1) (H.key 2)).enc) (H.ext (partB q.1 q.2.2.1 q.2.2.2))
  | 35 => ot (A47 args) fun q => .ok (errV (q.1.or q.2)) H
  | 38 => ot (A51 H args) fun q => .ok (outV H.nx 4 (q.1 ++ q.2).length) (H.ext [outB 4 ((q.1 ++ q.2).map Evn.enc)])
  | 39 => ot (A52 H args) fun q => .ok (outV H.nx 5 (q.1 ++ q.2).length) (H.ext [outB 5 ((q.1 ++ q.2).map Cell.enc)])
  | 37 => ot (A50 H args) fun q => .ok (.tup [outV (H.key 1) 4 (q.1.drop (q.1.length - 24)).length, outV (H.key 0) 5 q.2.length]) (H.ext [outB 5 ((keepC (q.1.take (q.1.length - 24)) q.2).map Cell.enc), outB 4 ((q.1.drop (q.1.length - 24)).map Evn.enc)])
  | _ => .fail
theorem good_EP : Ev.Good Tryz.prog EP := by
  intro f args H r G he φ w args' ha hw
  refine (?_ : FnOk Tryz.prog f args H fun v' G' => v' = r ∧ G' = G).one φ w args' ha hw
  unfold EP at he
  split at he
  · obtain ⟨s, ⟨rfl, h1⟩, hz⟩ := ot_ok he
    clear he
    cases hz
    exact f27_ok h1
  · obtain ⟨q, ⟨rfl, h1, h2, h3⟩, hz⟩ := ot_ok he
    clear he
    cases hz
    exact f31_ok h1 h2 h3 _ _ _
  · obtain ⟨q, rfl, hz⟩ := ot_ok he
    clear he
    cases hz
    exact f35_ok _ _
  · obtain ⟨q, ⟨k, wr, ex, cap, u, v, rfl, h1, h2, h3, h4, h5, h6⟩, hz⟩ := ot_ok he
    clear he
    cases hz
    exact f38_ok h1 h2 h3 h4 h5 h6
  · obtain ⟨q, ⟨k, wr, ex, cap, u, v, rfl, h1, h2, h3, h4, h5, h6⟩, hz⟩ := ot_ok he
    clear he
    cases hz
    exact f39_ok h1 h2 h3 h4 h5 h6
  · obtain ⟨q, ⟨k, k', rfl, h1, h2, h3, h4⟩, hz⟩ := ot_ok he
    clear he
    cases hz
    exact f37_ok rfl rfl h1 h2 h3 h4
  · cases he
theorem e42 {s : Sh} (h : s.ok H) (L : List Blk) : EP 27 [.agg [.int .i64 s.id, .int .i64 s.ep, .str s.fr, .str s.to, .bool s.frz, s.cv, s.ev, s.dv]] (H.ext L) = .ok (errV (fitsE s)) (H.ext L) := by
  show ot (A42 (H.ext L) [.agg s.enc]) (fun s => .ok (errV (fitsE s)) (H.ext L)) = _
  refine ot_eq (p := A42 (H.ext L) [.agg s.enc]) (x := s) ⟨rfl, h.ext L⟩ ?_ _
  rintro t ⟨h1, h2⟩
  injection h1 with h1 _
  injection h1 with h1
  exact (Sh.uniq h1 (h.ext L) h2).symm
theorem e45 {s : Sh} (h : s.ok H) (hd : s.done.length < 100000) (he : s.evs.length < 100000) (id : Int) (f t : List Nat) (L : List Blk) : EP 31 [.agg [.int .i64 s.id, .int .i64 s.ep, .str s.fr, .str s.to, .bool s.frz, s.cv, s.ev, s.dv], .int .i64 id, .agg [.str f, .str t]] (H.ext L) =
    .ok (.agg [.int .i64 id, .int .i64 1, .str f, .str t, .bool false, outV (H.key L.length) 5 (withinL f t s.cells).length, outV (H.key (L.length + 1)) 4 (evW f t s.evs).length, zV (nilB s.dv) (H.key (L.length + 2)) 6 s.done.length]) (H.ext (L ++ partB s f t)) := by
  show ot (A45 (H.ext L) [.agg s.enc, .int .i64 id, .agg [.str f, .str t]]) (fun q => .ok (.agg (partS q.1 q.2.1 q.2.2.1 q.2.2.2 ((H.ext L).key 0) ((H.ext L).key 1) ((H.ext L).key 2)).enc) ((H.ext L).ext (partB q.1 q.2.2.1 q.2.2.2))) = _
  rw [ot_eq (p := A45 (H.ext L) [.agg s.enc, .int .i64 id, .agg [.str f, .str t]]) (x := (s, id, f, t)) ⟨rfl, h.ext L, hd, he⟩, Heap.ext_append, Heap.key_ext, Heap.key_ext, Heap.key_ext]
  · rfl
  · rintro ⟨t', id', f', t2⟩ ⟨h1, h2, _, _⟩
    injection h1 with h1 h3
    injection h3 with h3 h4
    injection h4 with h4 _
    injection h1 with h1
    injection h3 with _ h3
    injection h4 with h4
    injection h4 with h4 h5
    injection h5 with h5 _
    injection h4 with h4
    injection h5 with h5
    rw [Sh.uniq h1 (h.ext L) h2, h3, h4, h5]
theorem errV_inj {a b : Option Int} (h : errV a = errV b) : a = b := by
  cases a <;> cases b <;> simp [errV] at h ⊢ <;> exact h
theorem e47 (a b : Option Int) (H : Heap) : EP 35 [errV a, errV b] H = .ok (errV (a.or b)) H := by
  show ot (A47 [errV a, errV b]) (fun q => .ok (errV (q.1.or q.2)) H) = _
  rw [ot_eq (p := A47 [errV a, errV b]) (x := (a, b)) rfl]
  rintro ⟨a', b'⟩ h
  injection h with h h2
  injection h2 with h2 _
  rw [errV_inj h, errV_inj h2]
theorem e51 {xs ys : List Evn} {u v : AV} (hA : Arr H 4 u (xs.map Evn.enc)) (hB : Arr H 4 v (ys.map Evn.enc)) (hx : xs.length < 10000) (hy : ys.length < 10000) (ex : Bool) (cap : Nat) (L : List Blk) (i : Nat) (hi : L[i]? = some (.row true 1 [[u], [v]])) :
    EP 38 [.slice (H.key i) 0 2 1 ex cap] (H.ext L) = .ok (outV (H.key L.length) 4 (xs ++ ys).length) (H.ext (L ++ [outB 4 ((xs ++ ys).map Evn.enc)])) := by
  show ot (A51 (H.ext L) [.slice (H.key i) 0 2 1 ex cap]) (fun q => .ok (outV (H.ext L).nx 4 (q.1 ++ q.2).length) ((H.ext L).ext [outB 4 ((q.1 ++ q.2).map Evn.enc)])) = _
  have hil := (List.getElem?_eq_some_iff.1 hi).1
  have hg : (H.ext L).get (H.key i) = some (.row true 1 [[u], [v]]) := by rw [Heap.get_ext_key _ _ _ hil, hi]
  rw [ot_eq (p := A51 (H.ext L) [.slice (H.key i) 0 2 1 ex cap]) (x := (xs, ys)) ⟨_, _, _, _, _, _, rfl, hg, (by rw [Heap.nx_ext, Heap.toNat_key, Heap.toNat_key]; omega), hA.ext L, hB.ext L, hx, hy⟩, Heap.nx_ext, Heap.ext_append]
  rintro ⟨xs', ys'⟩ ⟨k, wr, ex', cap', u', v', h1, h2, _, h3, h4, _, _⟩
  injection h1 with h1 _
  injection h1 with h1
  subst h1
  rw [hg] at h2
  cases h2
  rw [evs_uniq (hA.ext L) h3, evs_uniq (hB.ext L) h4]
theorem e52 {xs ys : List Cell} {u v : AV} (hA : Arr H 5 u (xs.map Cell.enc)) (hB : Arr H 5 v (ys.map Cell.enc)) (hx : xs.length < 10000) (hy : ys.length < 10000) (ex : Bool) (cap : Nat) (L : List Blk) (i : Nat) (hi : L[i]? = some (.row true 1 [[u], [v]])) :
    EP 39 [.slice (H.key i) 0 2 1 ex cap] (H.ext L) = .ok (outV (H.key L.length) 5 (xs ++ ys).length) (H.ext (L ++ [outB 5 ((xs ++ ys).map Cell.enc)])) := by
  show ot (A52 (H.ext L) [.slice (H.key i) 0 2 1 ex cap]) (fun q => .ok (outV (H.ext L).nx 5 (q.1 ++ q.2).length) ((H.ext L).ext [outB 5 ((q.1 ++ q.2).map Cell.enc)])) = _
  have hil := (List.getElem?_eq_some_iff.1 hi).1
  have hg : (H.ext L).get (H.key i) = some (.row true 1 [[u], [v]]) := by rw [Heap.get_ext_key _ _ _ hil, hi]
  rw [ot_eq (p := A52 (H.ext L) [.slice (H.key i) 0 2 1 ex cap]) (x := (xs, ys)) ⟨_, _, _, _, _, _, rfl, hg, (by rw [Heap.nx_ext, Heap.toNat_key, Heap.toNat_key]; omega), hA.ext L, hB.ext L, hx, hy⟩, Heap.nx_ext, Heap.ext_append]
  rintro ⟨xs', ys'⟩ ⟨k, wr, ex', cap', u', v', h1, h2, _, h3, h4, _, _⟩
  injection h1 with h1 _
  injection h1 with h1
  subst h1
  rw [hg] at h2
  cases h2
  rw [cells_uniq (hA.ext L) h3, cells_uniq (hB.ext L) h4]
theorem e50 {xs : List Evn} {cs : List Cell} (hx : xs.length < 100000) (hc : cs.length < 100000) (L : List Blk) (i j : Nat) (hi : L[i]? = some (outB 4 (xs.map Evn.enc))) (hj : L[j]? = some (outB 5 (cs.map Cell.enc))) :
    EP 37 [outV (H.key i) 4 xs.length, outV (H.key j) 5 cs.length, .int .i64 24] (H.ext L) = .ok (.tup [outV (H.key (L.length + 1)) 4 (xs.drop (xs.length - 24)).length, outV (H.key L.length) 5 cs.length]) (H.ext (L ++ [outB 5 ((keepC (xs.take (xs.length - 24)) cs).map Cell.enc), outB 4 ((xs.drop (xs.length - 24)).map Evn.enc)])) := by
  show ot (A50 (H.ext L) [outV (H.key i) 4 xs.length, outV (H.key j) 5 cs.length, .int .i64 24]) (fun q => .ok (.tup [outV ((H.ext L).key 1) 4 (q.1.drop (q.1.length - 24)).length, outV ((H.ext L).key 0) 5 q.2.length]) ((H.ext L).ext [outB 5 ((keepC (q.1.take (q.1.length - 24)) q.2).map Cell.enc), outB 4 ((q.1.drop (q.1.length - 24)).map Evn.enc)])) = _
  have h1 : Arr (H.ext L) 4 (outV (H.key i) 4 xs.length) (xs.map Evn.enc) := arr_outV hi (List.length_map ..)
  have h2 : Arr (H.ext L) 5 (outV (H.key j) 5 cs.length) (cs.map Cell.enc) := arr_outV hj (List.length_map ..)
  rw [ot_eq (p := A50 (H.ext L) [outV (H.key i) 4 xs.length, outV (H.key j) 5 cs.length, .int .i64 24]) (x := (xs, cs)) ⟨_, _, rfl, h1, h2, hx, hc⟩, Heap.key_ext, Heap.key_ext, Heap.ext_append]
  · rfl
  rintro ⟨xs', ys'⟩ ⟨k, k', h3, h4, h5, _, _⟩
  injection h3 with h3 h6
  injection h6 with h6 _
  rw [← h3] at h4
  rw [← h6] at h5
  rw [evs_uniq h1 h4, cells_uniq h2 h5]
end Go.Proofs
/- cut.Split: walked. -/

set_option linter.all false
set_option linter.all false
set_option maxRecDepth 100000
namespace Go.Proofs
open Go Go.Ev
variable {H : Heap}

def zeroS : AV := .agg [.int .i64 0, .int .i64 0, .str [], .str [], .bool false, .nils, .nils, .nils]
def okSplit (s : Sh) (l r : Int) : Prop := (isSh s ∧ ¬ s.frz = true) ∧ isID l ∧ isID r ∧ ¬ l = r
def inSplit (s : Sh) (k : List Nat) : Prop := has s.fr s.to k ∧ ltS s.fr k
noncomputable def splitV (H : Heap) (s : Sh) (k : List Nat) (l r : Int) : AV := open Classical in
  if okSplit s l r then (if inSplit s k then .tup [.agg (partS s l s.fr k (H.key 0) (H.key 1) (H.key 2)).enc, .agg (partS s r k s.to (H.key 3) (H.key 4) (H.key 5)).enc, .nili] else .tup [zeroS, zeroS, .iface 42 (.int .i64 22)]) else .tup [zeroS, zeroS, .iface 42 (.int .i64 10)]
noncomputable def splitB (s : Sh) (k : List Nat) (l r : Int) : List Blk := open Classical in
  if okSplit s l r ∧ inSplit s k then partB s s.fr k ++ partB s k s.to else []
theorem f11_ok {s : Sh} (h : s.ok H) (hd : s.done.length < 100000) (he : s.evs.length < 100000) (k : List Nat) (l r : Int) :
    FnOk Tryz.prog 11 [.agg s.enc, .str k, .int .i64 l, .int .i64 r] H fun v G => v = splitV H s k l r ∧ G = H.ext (splitB s k l r) := by
  refine FnOk.assume fun hok => ?_
  refine FnOk.dropW ?_
  refine FnOk.of_WW Tryz.func11 rfl C11ok R11ok EP good_EP ?_
  have cren := h.c.ren
  have eren := h.e.ren
  have dren := h.d.ren
  have drens := h.dok.rens
  have hbad : ¬ okSplit s l r → ∀ L, ∃ l_1 σ, AV.tup [zeroS, zeroS, .iface 42 (.int .i64 10)] = AV.ren (rho H l_1.length σ) (splitV H s k l r) ∧ H.ext L = H.ext l_1 ∧ (splitB s k l r).length = σ.length ∧ σ.Nodup ∧ WkB l_1 (rho H l_1.length σ) (splitB s k l r) σ := fun g L => by
    unfold splitV splitB
    rw [if_neg g, if_neg fun h => g h.1]
    exact ⟨L, [], by simp only [zeroS, AV.ren, AV.rens], rfl, rfl, by decide, by simp only [go_sem]⟩
  simp only [zeroS] at hbad
  simp only [go_sem, C11, Sh.enc]
  refine CL.of (f27_ok (h.ext _)) ?_
  rintro _ G' ⟨rfl, hG⟩
  rw [hG]
  clear hG
  simp only [go_sem]
  refine CL.bool (f28_ok _ 10) (fun g => ?_) (fun g => ?_)
  · simp only [go_sem]
    exact hbad (fun h => by rw [if_pos h.1] at g; cases g) _
  have hok1 : isSh s ∧ ¬ s.frz = true := Classical.byContradiction fun h => g (if_neg h)
  rw [if_pos hok1]
  simp only [go_sem, errV]
  refine CL.bool (f29_ok l) (fun g1 => ?_) (fun g1 => ?_)
  rotate_left
  · simp only [go_sem]
    exact hbad (fun h => g1 h.2.1) _
  simp only [go_sem]
  refine CL.bool (f29_ok r) (fun g2 => ?_) (fun g2 => ?_)
  rotate_left
  · simp only [go_sem]
    exact hbad (fun h => g2 h.2.2.1) _
  simp only [go_sem]
  refine ⟨fun g3 => hbad (fun h => h.2.2.2 g3) _, fun g3 => ?_⟩
  have hoks : okSplit s l r := ⟨hok1, g1, g2, g3⟩
  refine CL.of (f30_ok s.fr s.to k) ?_
  rintro _ G' ⟨rfl, hG⟩
  rw [hG]
  clear hG
  by_cases hin : has s.fr s.to k ∧ ltS s.fr k
  · rw [if_pos hin]
    have e1 := e45 h hd he l s.fr k
    have e2 := e45 h hd he r k s.to
    simp only [partB] at e1 e2
    simp only [go_sem, e1, e2]
    unfold splitV splitB
    rw [if_pos hoks, if_pos (show inSplit s k from hin), if_pos ⟨hoks, hin⟩]
    exact ⟨_, [5, 6, 7, 8, 9, 10], by simp only [partS, Sh.enc, outV_ren', zV_ren, go_sem], rfl, rfl, by decide, by simp only [partB, go_sem, ↓outB_ren', ↓zB_ren, drens, Cell.map_rens, Evn.map_rens, implies_true]⟩
  · rw [if_neg hin]
    simp only [go_sem]
    unfold splitV splitB
    rw [if_pos hoks, if_neg (show ¬ inSplit s k from hin), if_neg fun h => hin h.2]
    exact ⟨_, [], by simp only [zeroS, AV.ren, AV.rens], rfl, rfl, by decide, by simp only [go_sem]⟩
/-- what two shards are joined -/
def okJoin (s t : Sh) (id : Int) : Prop := (isSh s ∧ ¬ s.frz = true) ∧ (isSh t ∧ ¬ t.frz = true) ∧ isID id
def meets (s t : Sh) : Prop := isSpan s.fr s.to ∧ isSpan t.fr t.to ∧ ¬ s.to = [] ∧ s.to = t.fr
def joinEvs (s t : Sh) : List Evn := (s.evs ++ t.evs).drop ((s.evs ++ t.evs).length - 24)
def joinCells (s t : Sh) : List Cell := keepC ((s.evs ++ t.evs).take ((s.evs ++ t.evs).length - 24)) (s.cells ++ t.cells)
noncomputable def joinS (z : Bool) (s t : Sh) (id : Int) (k0 k1 k2 : K) : Sh := ⟨id, 1, s.fr, t.to, false, joinCells s t, joinEvs s t, joinP s.done t.done, outV k0 5 (s.cells ++ t.cells).length, outV k1 4 (joinEvs s t).length, zV z k2 6 (joinP s.done t.done).length⟩
noncomputable def joinV (H : Heap) (z : Bool) (s t : Sh) (id : Int) : AV := open Classical in
  if okJoin s t id then (if meets s t then .tup [.agg (joinS z s t id (H.key 0) (H.key 1) (H.key 2)).enc, .nili] else .tup [zeroS, .iface 42 (.int .i64 22)]) else .tup [zeroS, .iface 42 (.int .i64 10)]
noncomputable def joinB (z : Bool) (s t : Sh) (id : Int) : List Blk := open Classical in
  if okJoin s t id ∧ meets s t then [outB 5 ((joinCells s t).map Cell.enc), outB 4 ((joinEvs s t).map Evn.enc), zB z 6 ((joinP s.done t.done).map Dn.enc)] else []
end Go.Proofs
/- cut.Join: walked. -/

set_option linter.all false
set_option linter.all false
set_option maxRecDepth 100000
namespace Go.Proofs
open Go Go.Ev
variable {H : Heap}

theorem f40_at {u v : AV} {l b : List Dn} (hA : Arr H 6 v (l.map Dn.enc)) (hB : Arr H 6 u (b.map Dn.enc)) (ha : allOk H l) (hb : allOk H b) (hup : upD b) (hl : l.length < 100000) (hbl : b.length < 100000) :
    FnOk Tryz.prog 40 [v, u] H fun r G => r = zV (nilB u) H.nx 6 (joinP l b).length ∧ G = H.ext [zB (nilB u) 6 ((joinP l b).map Dn.enc)] := by
  refine FnOk.assume fun hok => ?_
  refine FnOk.dropZd (List.length_map ..) (joinP_ok ha hb).rens ?_
  refine FnOk.of_WW Tryz.func40 rfl C40ok R40ok E0 good_E0 ?_
  have hlen := fun G => hA.len G; simp only [List.length_map] at hlen; have hren := hA.ren
  simp only [go_sem, C40]
  refine CL.of (clone_zd clo57 (hB.ext _) (by rw [List.length_map]; omega) (hb.ext _).rens) ?_
  rintro _ _ ⟨rfl, rfl⟩
  generalize nilB u = z
  simp only [go_sem, List.length_map, hlen]
  have hokP : ∀ i, allOk H (joinP (l.take i) b) := fun i => joinP_ok (fun d hd => ha d (List.mem_of_mem_take hd)) hb
  refine LL.st good_E0 (fun i : Nat => l.length - i) (fun i => i ≤ l.length)
    (fun i => [((.o (.i .z)), zV z (H.key 0) 6 (joinP (l.take i) b).length), ((.i (.i (.o .z))), v), ((.o (.o (.i .z))), .int .i64 l.length), ((.i (.o (.i .z))), .int .i64 i)])
    (fun i => [zB z 6 ((joinP (l.take i) b).map Dn.enc)]) ?_ 0 (σ := [0]) (Wk.of rfl (by decide) (by simp only [go_sem, hren, zV_ren, joinP, List.foldl_nil]) (by simp only [go_sem, joinP, List.foldl_nil, ↓zB_ren, hb.rens, implies_true])) (Nat.zero_le _)
  rintro i hi
  by_cases hlt : i < l.length
  · obtain ⟨kk, r, ex', cap', wr, rows, hv, hrho, hgo, hrow⟩ := hA.at hok (j := i) (by rw [List.length_map]; exact hlt); simp only [List.length_map, List.getElem_map] at hv hrow; cases hv; have hget : l[i]? = some l[i] := List.getElem?_eq_getElem hlt; generalize l[i] = c at hrow hget; have hw := wrap_succ (n := i) (by omega); have hci : (i : Int) < (l.length : Int) := (by omega); have hsi : i + 1 ≤ l.length := (by omega)
    have hco := ha c (List.mem_of_getElem? hget)
    have hupP : upD (joinP (l.take i) b) := joinP_up hup
    have hnew := joinP_succ (b := b) hget
    have hln := joinP_len (a := l.take i) (b := b)
    rw [List.length_take] at hln
    have hoi := hokP i
    have hoi2 := (hokP (i + 1)).rens
    generalize joinP (l.take i) b = acc at hupP hnew hln hoi ⊢
    rw [hnew] at hoi2
    simp only [go_sem, C40L0, hci, hsi, hgo, hrow, hw, Dn.enc]
    refine CL.of (f68_ok (l := acc) (d := c) (arr_zV rfl (List.length_map ..)) (hoi.ext _) (hco.ext _) hupP (by omega)) ?_
    rintro _ _ ⟨rfl, rfl⟩
    simp only [go_sem, hw]
    have hwp := withD_pos (l := acc) (d := c)
    have hz : outV (H.key 2) 6 (withD acc c).length = zV z (H.key 2) 6 (withD acc c).length := by rw [outV_pos hwp, zV_pos hwp]
    have hz2 : outB 6 ((withD acc c).map Dn.enc) = zB z 6 ((withD acc c).map Dn.enc) := by rw [outB_pos (by rw [List.length_map]; exact hwp), zB_pos (by rw [List.length_map]; exact hwp)]
    rw [hz, hz2]
    refine ⟨i + 1, by show l.length - (i + 1) < l.length - i; omega, ?_, _, [2], rfl, Wk.of rfl (by decide) (by simp only [go_sem, zV_ren, hrho, hnew, hw]) (by simp only [go_sem, ↓zB_ren, hoi2, implies_true, hnew])⟩
    show i + 1 ≤ l.length
    omega
  · have hci : ¬ (i : Int) < (l.length : Int) := by omega
    simp only [go_sem, C40L0, hci]
    rw [List.take_of_length_le (by omega)]
    exact ⟨_, 0, rfl, rfl, fun _ => rfl⟩
theorem f13_ok {s t : Sh} (h : s.ok H) (h2 : t.ok H) (hsd : s.done.length < 100000) (htd : t.done.length < 100000) (hsc : s.cells.length < 10000) (htc : t.cells.length < 10000) (hse : s.evs.length < 10000) (hte : t.evs.length < 10000) (id : Int) :
    FnOk Tryz.prog 13 [.agg s.enc, .agg t.enc, .int .i64 id] H fun v G => v = joinV H (nilB t.dv) s t id ∧ G = H.ext (joinB (nilB t.dv) s t id) := by
  refine FnOk.assume fun hok => ?_
  refine FnOk.dropW ?_
  refine FnOk.of_WW Tryz.func13 rfl C13ok R13ok EP good_EP ?_
  have e1 := e42 h
  have e2 := e42 h2
  have hbad : ¬ okJoin s t id → ∀ L, ∃ l_1 σ, AV.tup [zeroS, .iface 42 (.int .i64 10)] = AV.ren (rho H l_1.length σ) (joinV H (nilB t.dv) s t id) ∧ H.ext L = H.ext l_1 ∧ (joinB (nilB t.dv) s t id).length = σ.length ∧ σ.Nodup ∧ WkB l_1 (rho H l_1.length σ) (joinB (nilB t.dv) s t id) σ := fun g L => by
    unfold joinV joinB
    rw [if_neg g, if_neg fun h => g h.1]
    exact ⟨L, [], by simp only [zeroS, AV.ren, AV.rens], rfl, rfl, by decide, by simp only [go_sem]⟩
  simp only [zeroS] at hbad
  simp only [go_sem, C13, Sh.enc, e1, e2, e47]
  by_cases g1 : isSh s ∧ ¬ s.frz = true
  rotate_left
  · have q1 : fitsE s = some 10 := if_neg g1
    simp only [go_sem, q1, Option.or, errV]
    exact hbad (fun h => g1 h.1) _
  by_cases g2 : isSh t ∧ ¬ t.frz = true
  rotate_left
  · have q1 : fitsE s = none := if_pos g1
    have q2 : fitsE t = some 10 := if_neg g2
    simp only [go_sem, q1, q2, Option.or, errV]
    exact hbad (fun h => g2 h.2.1) _
  have q1 : fitsE s = none := if_pos g1
  have q2 : fitsE t = none := if_pos g2
  simp only [go_sem, q1, q2, Option.or, errV]
  refine CL.bool (f29_ok id) (fun g3 => ?_) (fun g3 => ?_)
  rotate_left
  · simp only [go_sem]
    exact hbad (fun h => g3 h.2.2) _
  have hoks : okJoin s t id := ⟨g1, g2, g3⟩
  simp only [go_sem]
  refine CL.bool (f36_ok s.fr s.to t.fr t.to) (fun g4 => ?_) (fun g4 => ?_)
  rotate_left
  · simp only [go_sem]
    unfold joinV joinB
    rw [if_pos hoks, if_neg (show ¬ meets s t from g4), if_neg fun h => g4 h.2]
    exact ⟨_, [], by simp only [zeroS, AV.ren, AV.rens], rfl, rfl, by decide, by simp only [go_sem]⟩
  simp only [go_sem]
  refine CL.of (f20_ok id 1 s.fr t.to) ?_
  rintro _ G' ⟨rfl, hG⟩
  rw [hG]
  clear hG
  have i51 := e51 h.e h2.e hse hte
  have i52 := e52 h.c h2.c hsc htc
  obtain ⟨xs, hxs⟩ : ∃ xs, xs = s.evs ++ t.evs := ⟨_, rfl⟩
  obtain ⟨cs, hcs⟩ : ∃ cs, cs = s.cells ++ t.cells := ⟨_, rfl⟩
  rw [← hxs] at i51
  rw [← hcs] at i52
  have i50 := e50 (H := H) (xs := xs) (cs := cs) (by rw [hxs, List.length_append]; omega) (by rw [hcs, List.length_append]; omega)
  simp only [go_sem, i51, i52, i50, arr_one h.c, arr_one h2.c, arr_one h.e, arr_one h2.e, arr_agg h.c, arr_agg h2.c, arr_agg h.e, arr_agg h2.e]
  have hrd := (joinP_ok h.dok h2.dok).rens
  refine CL.of (f40_at (h.d.ext _) (h2.d.ext _) (h.dok.ext _) (h2.dok.ext _) g2.1.2.2.2.2.2.upDD hsd htd) ?_
  rintro _ _ ⟨rfl, rfl⟩
  simp only [go_sem]
  unfold joinV joinB
  rw [if_pos hoks, if_pos (show meets s t from g4), if_pos ⟨hoks, g4⟩]
  unfold joinS joinEvs joinCells
  rw [← hxs, ← hcs]
  exact ⟨_, [8, 9, 10], by simp only [Sh.enc, outV_ren', zV_ren, go_sem], rfl, rfl, by decide, by simp only [go_sem, ↓outB_ren', ↓zB_ren, hrd, Cell.map_rens, Evn.map_rens, implies_true]⟩
end Go.Proofs
/- cut: the plain law of parts. -/



set_option linter.all false
set_option linter.all false
set_option maxRecDepth 100000
namespace Go.Proofs
open Go Go.Ev
variable {H : Heap}

abbrev Ord (l : List Cell) : Prop := List.Pairwise (fun x y : Cell => ltS x.key y.key) l
theorem isIdx_all {l : List Cell} (h : isIdx l) : ∀ c ∈ l, cellIs c := fun c hc => h.cell hc
theorem isIdx_of {l : List Cell} (h : ∀ c ∈ l, cellIs c) (ho : Ord l) : isIdx l := by
  intro j hj
  refine ⟨l[j], List.getElem?_eq_getElem hj, h _ (List.getElem_mem hj), fun h0 => ⟨l[j - 1], List.getElem?_eq_getElem (by omega), ?_⟩⟩
  exact (List.pairwise_iff_getElem.1 ho) (j - 1) j (by omega) hj (by omega)
theorem isIdx_filter {l : List Cell} (h : isIdx l) (p : Cell → Bool) : isIdx (l.filter p) :=
  isIdx_of (fun c hc => isIdx_all h c (List.mem_filter.1 hc).1) ((isIdx_pair h).filter p)
theorem getL_true {k : List Nat} : ∀ {l : List Cell}, (getL l k).2 = true ↔ ∃ c ∈ l, c.key = k
  | [] => by simp [getL]
  | c :: l => by
    rw [getL]
    by_cases h : c.key = k
    · rw [if_pos h]; exact ⟨fun _ => ⟨c, by simp, h⟩, fun _ => rfl⟩
    · rw [if_neg h, getL_true]
      constructor
      · rintro ⟨d, h1, h2⟩; exact ⟨d, by simp [h1], h2⟩
      · rintro ⟨d, h1, h2⟩
        rcases List.mem_cons.1 h1 with rfl | h1
        · exact absurd h2 h
        · exact ⟨d, h1, h2⟩
theorem runR_filter {c : Cell} {p : Evn → Bool} : ∀ {l : List Evn} {v : Int}, (∀ e ∈ l, e.key = c.key → p e = true) → runR c (l.filter p) v = runR c l v
  | [], v, _ => rfl
  | e :: l, v, h => by
    have h' : ∀ e ∈ l, e.key = c.key → p e = true := fun e he => h e (by simp [he])
    by_cases hk : e.key = c.key
    · rw [List.filter_cons_of_pos (h e (by simp) hk), runR, runR, if_pos hk, if_pos hk]
      split
      · exact runR_filter h'
      · rfl
    · rw [runR, if_neg hk]
      by_cases hp : p e = true
      · rw [List.filter_cons_of_pos hp, runR, if_neg hk, runR_filter h']
      · rw [List.filter_cons_of_neg hp, runR_filter h']
theorem runR_none {c : Cell} : ∀ {l : List Evn} {v : Int}, (∀ e ∈ l, ¬ e.key = c.key) → runR c l v = some v
  | [], v, _ => rfl
  | e :: l, v, h => by
    rw [runR, if_neg (h e (by simp)), runR_none fun e he => h e (by simp [he])]
theorem runR_append {c : Cell} : ∀ {a b : List Evn} {v : Int}, runR c (a ++ b) v = (runR c a v).bind fun w => runR c b w
  | [], b, v => rfl
  | e :: a, b, v => by
    rw [List.cons_append, runR, runR]
    split
    · split
      · exact runR_append
      · rfl
    · exact runR_append
theorem filter_len {α : Type} {p : α → Bool} : ∀ {l : List α}, (l.filter p).length + (l.filter fun x => !p x).length = l.length
  | [] => rfl
  | x :: l => by
    have := filter_len (p := p) (l := l)
    by_cases h : p x = true
    · rw [List.filter_cons_of_pos h, List.filter_cons_of_neg (by simp [h]), List.length_cons, List.length_cons]; omega
    · rw [List.filter_cons_of_neg h, List.filter_cons_of_pos (by simp [h]), List.length_cons, List.length_cons]; omega
section
variable {s : Sh} {k : List Nat}
theorem inSplit.key (h : inSplit s k) : isKey k := h.1.2.1
theorem inSplit.lo (h : inSplit s k) : isSpan s.fr k := ⟨h.1.1.1, h.key.2, .inr h.2⟩
theorem inSplit.hi (h : inSplit s k) : isSpan k s.to := ⟨h.key.2, h.1.1.2.1, h.1.2.2.2⟩
theorem has_lo (h : inSplit s k) {key : List Nat} : has s.fr k key ↔ has s.fr s.to key ∧ ltS key k := by
  constructor
  · rintro ⟨_, h2, h3, h4⟩
    have h4 : ltS key k := h4.resolve_left h.key.1
    exact ⟨⟨h.1.1, h2, h3, h.1.2.2.2.imp id fun g => ltS_trans h4 g⟩, h4⟩
  · rintro ⟨⟨_, h2, h3, _⟩, h4⟩
    exact ⟨h.lo, h2, h3, .inr h4⟩
theorem has_hi (h : inSplit s k) {key : List Nat} : has k s.to key ↔ has s.fr s.to key ∧ ¬ ltS key k := by
  constructor
  · rintro ⟨_, h2, h3, h4⟩
    exact ⟨⟨h.1.1, h2, fun g => h3 (ltS_trans g h.2), h4⟩, h3⟩
  · rintro ⟨⟨_, h2, _, h4⟩, h3⟩
    exact ⟨h.hi, h2, h3, h4⟩
theorem ev_has (hs : isSh s) {e : Evn} (he : e ∈ s.evs) : has s.fr s.to e.key := by
  obtain ⟨c, h1, h2⟩ := getL_true.1 (hs.2.2.2.2.1.2.1 e he).1
  rw [← h2]
  exact hs.2.2.1 c h1
theorem cells_lo (hs : isSh s) (h : inSplit s k) : withinL s.fr k s.cells = s.cells.filter (fun c => decide (ltS c.key k)) :=
  List.filter_congr fun c hc => by
    have := hs.2.2.1 c hc
    exact decide_eq_decide.2 ((has_lo h).trans ⟨fun g => g.2, fun g => ⟨this, g⟩⟩)
theorem cells_hi (hs : isSh s) (h : inSplit s k) : withinL k s.to s.cells = s.cells.filter (fun c => decide (¬ ltS c.key k)) :=
  List.filter_congr fun c hc => by
    have := hs.2.2.1 c hc
    exact decide_eq_decide.2 ((has_hi h).trans ⟨fun g => g.2, fun g => ⟨this, g⟩⟩)
theorem evs_lo (hs : isSh s) (h : inSplit s k) : evW s.fr k s.evs = s.evs.filter (fun c => decide (ltS c.key k)) :=
  List.filter_congr fun c hc => by
    have := ev_has hs hc
    exact decide_eq_decide.2 ((has_lo h).trans ⟨fun g => g.2, fun g => ⟨this, g⟩⟩)
theorem evs_hi (hs : isSh s) (h : inSplit s k) : evW k s.to s.evs = s.evs.filter (fun c => !decide (ltS c.key k)) :=
  List.filter_congr fun c hc => by
    have := ev_has hs hc
    rw [← decide_not]
    exact decide_eq_decide.2 ((has_hi h).trans ⟨fun g => g.2, fun g => ⟨this, g⟩⟩)
theorem evs_len (hs : isSh s) (h : inSplit s k) : (evW s.fr k s.evs).length + (evW k s.to s.evs).length = s.evs.length := by
  rw [evs_lo hs h, evs_hi hs h]; exact filter_len
/-- what has happened is that of the cells within -/
theorem hist_part (hs : isSh s) (f t : List Nat) : isHist (evW f t s.evs) (withinL f t s.cells) := by
  have hh := hs.2.2.2.2.1
  refine ⟨isIdx_filter hh.1 _, fun e he => ?_, fun c hc => ?_⟩
  · obtain ⟨h1, h2⟩ := List.mem_filter.1 he
    obtain ⟨c, h3, h4⟩ := getL_true.1 (hh.2.1 e h1).1
    exact ⟨getL_true.2 ⟨c, List.mem_filter.2 ⟨h3, by rw [h4]; exact h2⟩, h4⟩, (hh.2.1 e h1).2⟩
  · obtain ⟨h1, h2⟩ := List.mem_filter.1 hc
    have := ofH_iff.1 (hh.2.2 c h1)
    rw [ofH_iff, evW, runR_filter (fun e _ g => by rw [g]; exact h2)]
    exact this
theorem part_sh (hs : isSh s) {f t : List Nat} (hsp : isSpan f t) {id : Int} (hid : isID id) (k0 k1 k2 : K) : isSh (partS s id f t k0 k1 k2) := by
  refine ⟨⟨hid.1, hid.2, by show (1 : Int) ≤ 1; decide, by show (1 : Int) ≤ 1000000; decide⟩, hsp, fun c hc => ?_, ?_, hist_part hs f t, hs.2.2.2.2.2⟩
  · exact of_decide_eq_true (List.mem_filter.1 hc).2
  · show ((evW f t s.evs).length : Int) ≤ 24
    have h1 := hs.2.2.2.1
    have h2 : (evW f t s.evs).length ≤ s.evs.length := List.length_filter_le ..
    omega
section
variable {l r id : Int} {k0 k1 k2 k3 k4 k5 : K}
theorem parts_meet (hs : isSh s) (h : inSplit s k) : meets (partS s l s.fr k k0 k1 k2) (partS s r k s.to k3 k4 k5) := ⟨h.lo, h.hi, h.key.1, rfl⟩
theorem parts_join (hs : isSh s) (h : inSplit s k) (hl : isID l) (hr : isID r) (hid : isID id) : okJoin (partS s l s.fr k k0 k1 k2) (partS s r k s.to k3 k4 k5) id :=
  ⟨⟨part_sh hs h.lo hl _ _ _, (by show ¬ (false : Bool) = true; decide)⟩, ⟨part_sh hs h.hi hr _ _ _, (by show ¬ (false : Bool) = true; decide)⟩, hid⟩
theorem joinEvs_parts (hs : isSh s) (h : inSplit s k) : joinEvs (partS s l s.fr k k0 k1 k2) (partS s r k s.to k3 k4 k5) = evW s.fr k s.evs ++ evW k s.to s.evs := by
  have h1 := hs.2.2.2.1
  have h2 := evs_len hs h
  show (evW s.fr k s.evs ++ evW k s.to s.evs).drop ((evW s.fr k s.evs ++ evW k s.to s.evs).length - 24) = _
  rw [List.length_append, h2, show s.evs.length - 24 = 0 by omega, List.drop_zero]
end
end
end Go.Proofs
/- cut: what is known, walked. -/

set_option linter.all false
set_option linter.all false
set_option maxRecDepth 100000
namespace Go.Proofs
open Go Go.Ev
variable {H : Heap}

theorem part_ok' {s : Sh} (hdk : allOk H s.done) (hcl : s.cells.length < 4294967296) (hel : s.evs.length < 4294967296) (hdl : s.done.length < 4294967296) {L : List Blk} {a b c : Nat} (id : Int) (f t : List Nat) (ha : L[a]? = some (outB 5 ((withinL f t s.cells).map Cell.enc))) (hb : L[b]? = some (outB 4 ((evW f t s.evs).map Evn.enc))) (hc : L[c]? = some (zB (nilB s.dv) 6 (s.done.map Dn.enc))) :
    (partS s id f t (H.key a) (H.key b) (H.key c)).ok (H.ext L) where
  c := arr_outV ha (List.length_map ..)
  e := arr_outV hb (List.length_map ..)
  d := arr_zV hc (List.length_map ..)
  dok := hdk.ext L
  cl := Nat.lt_of_le_of_lt (List.length_filter_le ..) hcl
  el := Nat.lt_of_le_of_lt (List.length_filter_le ..) hel
  dl := hdl
theorem part_ok {s : Sh} (h : s.ok H) {L : List Blk} {a b c : Nat} (id : Int) (f t : List Nat) (ha : L[a]? = some (outB 5 ((withinL f t s.cells).map Cell.enc))) (hb : L[b]? = some (outB 4 ((evW f t s.evs).map Evn.enc))) (hc : L[c]? = some (zB (nilB s.dv) 6 (s.done.map Dn.enc))) :
    (partS s id f t (H.key a) (H.key b) (H.key c)).ok (H.ext L) := part_ok' h.dok h.cl h.el h.dl id f t ha hb hc
theorem arr_lit {L : List Blk} {esz i n : Nat} {wr ex : Bool} {cap : Nat} {xs : List (List AV)} (h : L[i]? = some (.row wr esz xs)) (hn : xs.length = n) : Arr (H.ext L) esz (.slice (H.key i) 0 n esz ex cap) xs := by
  subst hn
  have hil := (List.getElem?_eq_some_iff.1 h).1
  exact .inr ⟨_, _, _, _, rfl, by rw [Heap.nx_ext, Heap.toNat_key, Heap.toNat_key]; omega, fun _ => ⟨0, wr, xs, (Nat.zero_mul _).symm, by rw [Heap.get_ext_key _ _ _ hil, h], by rw [List.drop_zero, List.take_length]⟩⟩
def kc1 : Cell := ⟨[97], [], 1, false, 0⟩
def kc2 : Cell := ⟨[109], [], 1, false, 1⟩
def ke1 : Evn := ⟨[97], 1, [], false⟩
noncomputable def kS (H : Heap) : Sh := ⟨1, 4, [], [], false, [kc1, kc2], [ke1], [], .slice (H.key 0) 0 2 5 true 2, .slice (H.key 1) 0 1 4 true 1, .nils⟩
theorem kS_ok (L : List Blk) : (kS H).ok (H.ext (.row true 5 [kc1.enc, kc2.enc] :: .row true 4 [ke1.enc] :: L)) where
  c := arr_lit rfl rfl
  e := arr_lit rfl rfl
  d := .inl ⟨rfl, rfl⟩
  dok := fun d hd => absurd (show d ∈ [] from hd) (by simp)
  cl := by show 2 < _; decide
  el := by show 1 < _; decide
  dl := by show 0 < _; decide
theorem lt_ac : ltS [97] [99] := (ltS_cons ..).2 (.inl (by decide))
theorem lt_cm : ltS [99] [109] := (ltS_cons ..).2 (.inl (by decide))
theorem k_span : isSpan [] [] := ⟨by decide, by decide, .inl rfl⟩
theorem k_has (k : Nat) : has [] [] [k] := ⟨k_span, ⟨by simp, by show (1 : Int) ≤ 8; decide⟩, not_ltS_nil _, .inl rfl⟩
theorem kS_sh : isSh (kS H) := by
  refine ⟨by show (1 : Int) ≤ 1 ∧ (1 : Int) ≤ 1000000000000 ∧ (1 : Int) ≤ 4 ∧ (4 : Int) ≤ 1000000; decide, k_span, fun c hc => ?_, by show (1 : Int) ≤ 24; decide, ⟨isIdx_of (fun c hc => ?_) ?_, fun e he => ?_, fun c hc => ?_⟩, fun j hj => absurd hj (Nat.not_lt_zero _)⟩
  · have hc : c ∈ [kc1, kc2] := hc
    simp only [List.mem_cons, List.not_mem_nil, or_false] at hc
    rcases hc with rfl | rfl <;> exact k_has _
  · have hc : c ∈ [kc1, kc2] := hc
    simp only [List.mem_cons, List.not_mem_nil, or_false] at hc
    rcases hc with rfl | rfl <;> decide
  · show List.Pairwise _ [kc1, kc2]
    exact List.pairwise_cons.2 ⟨fun d hd => by rw [List.mem_singleton.1 hd]; exact ltS_trans lt_ac lt_cm, List.pairwise_singleton ..⟩
  · have he : e ∈ [ke1] := he
    rw [List.mem_singleton.1 he]
    exact ⟨rfl, by decide⟩
  · have hc : c ∈ [kc1, kc2] := hc
    simp only [List.mem_cons, List.not_mem_nil, or_false] at hc
    rcases hc with rfl | rfl
    · exact ofH_iff.2 (by show runR kc1 [ke1] 0 = some 1; decide)
    · exact ofH_iff.2 (by show runR kc2 [ke1] 1 = some 1; decide)
theorem k_in : inSplit (kS H) [99] := ⟨k_has _, rfl⟩
theorem k_lo : withinL [] [99] (kS H).cells = [kc1] := by
  refine (cells_lo kS_sh k_in).trans ?_
  show [kc1, kc2].filter _ = _
  rw [List.filter_cons_of_pos (p := fun c : Cell => decide (ltS c.key [99])) (decide_eq_true lt_ac), List.filter_cons_of_neg (by rw [decide_eq_false (show ¬ ltS kc2.key [99] from ltS_asymm lt_cm)]; decide)]
  rfl
theorem k_hi : withinL [99] [] (kS H).cells = [kc2] := by
  refine (cells_hi kS_sh k_in).trans ?_
  show [kc1, kc2].filter _ = _
  rw [List.filter_cons_of_neg (by rw [decide_eq_false (show ¬ ¬ ltS kc1.key [99] from fun h => h lt_ac)]; decide), List.filter_cons_of_pos (p := fun c : Cell => decide (¬ ltS c.key [99])) (decide_eq_true (ltS_asymm lt_cm))]
  rfl
theorem k_elo : evW [] [99] (kS H).evs = [ke1] := by
  refine (evs_lo kS_sh k_in).trans ?_
  show [ke1].filter _ = _
  rw [List.filter_cons_of_pos (p := fun c : Evn => decide (ltS c.key [99])) (decide_eq_true lt_ac)]
  rfl
theorem k_ehi : evW [99] [] (kS H).evs = [] := by
  refine (evs_hi kS_sh k_in).trans ?_
  show [ke1].filter _ = _
  rw [List.filter_cons_of_neg (by rw [decide_eq_true (show ltS ke1.key [99] from lt_ac)]; decide)]
  rfl
theorem k_join {l r : Int} {k0 k1 k2 k3 k4 k5 : K} : joinEvs (partS (kS H) l [] [99] k0 k1 k2) (partS (kS H) r [99] [] k3 k4 k5) = [ke1] := by
  refine (joinEvs_parts (s := kS H) kS_sh k_in).trans ?_
  show evW [] [99] (kS H).evs ++ evW [99] [] (kS H).evs = _
  rw [k_elo, k_ehi]; rfl
theorem k_okSplit : okSplit (kS H) 2 3 := ⟨⟨kS_sh, by show ¬ (false : Bool) = true; decide⟩, by decide, by decide, by decide⟩
theorem k_noSplit : ¬ okSplit (kS H) 2 2 := fun h => h.2.2.2 rfl
theorem f9_ok : FnOk Tryz.prog 9 [] H fun r G => r = .bool true ∧ G = H := by
  refine FnOk.assume fun hok => ?_
  refine FnOk.drop (R := fun r => r = .bool true) ?_ (by rintro v rfl ρ; rw [AV.ren])
  refine FnOk.of_WW Tryz.func9 rfl C9ok R9ok E0 good_E0 ?_
  simp only [go_sem, C9]
  refine CL.of (f11_ok (s := kS H) (kS_ok _) (by show 0 < 100000; decide) (by show 1 < 100000; decide) [99] 2 3) ?_
  rintro _ _ ⟨rfl, rfl⟩
  unfold splitV splitB
  rw [if_pos k_okSplit, if_pos k_in, if_pos ⟨k_okSplit, k_in⟩]
  have kfr : (kS H).fr = [] := rfl
  have kto : (kS H).to = [] := rfl
  simp only [go_sem, Heap.key_ext, partS, partB, Sh.enc, kfr, kto]
  have hk1 : ∀ {L : List Blk} {a b c : Nat} (id : Int) (f t : List Nat), L[a]? = some (outB 5 ((withinL f t (kS H).cells).map Cell.enc)) → L[b]? = some (outB 4 ((evW f t (kS H).evs).map Evn.enc)) → L[c]? = some (zB (nilB (kS H).dv) 6 ((kS H).done.map Dn.enc)) →
      (partS (kS H) id f t (H.key a) (H.key b) (H.key c)).ok (H.ext L) := part_ok' (fun d hd => absurd (show d ∈ [] from hd) (by simp)) (by show 2 < _; decide) (by show 1 < _; decide) (by show 0 < _; decide)
  have hc1 := k_lo (H := H)
  have hc2 := k_hi (H := H)
  have he1 := k_elo (H := H)
  have he2 := k_ehi (H := H)
  refine CL.of (f13_ok (s := partS (kS H) 2 [] [99] (H.key 3) (H.key 4) (H.key 5)) (t := partS (kS H) 3 [99] [] (H.key 6) (H.key 7) (H.key 8)) (hk1 2 [] [99] rfl rfl rfl) (hk1 3 [99] [] rfl rfl rfl) (by show 0 < _; decide) (by show 0 < _; decide) (by show (withinL [] [99] (kS H).cells).length < _; rw [hc1]; decide) (by show (withinL [99] [] (kS H).cells).length < _; rw [hc2]; decide) (by show (evW [] [99] (kS H).evs).length < _; rw [he1]; decide) (by show (evW [99] [] (kS H).evs).length < _; rw [he2]; decide) 4) ?_
  rintro _ _ ⟨rfl, rfl⟩
  unfold joinV joinB
  have jOk : okJoin (partS (kS H) 2 [] [99] (H.key 3) (H.key 4) (H.key 5)) (partS (kS H) 3 [99] [] (H.key 6) (H.key 7) (H.key 8)) 4 := parts_join (s := kS H) kS_sh k_in (by decide) (by decide) (by decide)
  have jMe : meets (partS (kS H) 2 [] [99] (H.key 3) (H.key 4) (H.key 5)) (partS (kS H) 3 [99] [] (H.key 6) (H.key 7) (H.key 8)) := parts_meet (s := kS H) kS_sh k_in
  have jEv : joinEvs (partS (kS H) 2 [] [99] (H.key 3) (H.key 4) (H.key 5)) (partS (kS H) 3 [99] [] (H.key 6) (H.key 7) (H.key 8)) = [ke1] := k_join
  rw [if_pos jOk, if_pos jMe, if_pos ⟨jOk, jMe⟩]
  generalize nilB (partS (kS H) 3 [99] [] (H.key 6) (H.key 7) (H.key 8)).dv = z
  simp only [go_sem, Heap.key_ext, joinS, Sh.enc]
  refine CL.of (f11_ok (s := kS H) (kS_ok _) (by show 0 < 100000; decide) (by show 1 < 100000; decide) [99] 2 2) ?_
  rintro _ _ ⟨rfl, rfl⟩
  unfold splitV splitB
  rw [if_neg k_noSplit, if_neg fun h => k_noSplit h.1]
  simp only [go_sem, zeroS]
  refine CL.of (f13_ok (s := partS (kS H) 3 [99] [] (H.key 6) (H.key 7) (H.key 8)) (t := partS (kS H) 2 [] [99] (H.key 3) (H.key 4) (H.key 5)) (hk1 3 [99] [] rfl rfl rfl) (hk1 2 [] [99] rfl rfl rfl) (by show 0 < _; decide) (by show 0 < _; decide) (by show (withinL [99] [] (kS H).cells).length < _; rw [hc2]; decide) (by show (withinL [] [99] (kS H).cells).length < _; rw [hc1]; decide) (by show (evW [99] [] (kS H).evs).length < _; rw [he2]; decide) (by show (evW [] [99] (kS H).evs).length < _; rw [he1]; decide) 4) ?_
  rintro _ _ ⟨rfl, rfl⟩
  have jOk2 : okJoin (partS (kS H) 3 [99] [] (H.key 6) (H.key 7) (H.key 8)) (partS (kS H) 2 [] [99] (H.key 3) (H.key 4) (H.key 5)) 4 := ⟨jOk.2.1, jOk.1, jOk.2.2⟩
  have jNo : ¬ meets (partS (kS H) 3 [99] [] (H.key 6) (H.key 7) (H.key 8)) (partS (kS H) 2 [] [99] (H.key 3) (H.key 4) (H.key 5)) := fun h => h.2.2.1 rfl
  unfold joinV joinB
  rw [if_pos jOk2, if_neg jNo, if_neg fun h => jNo h.2]
  have hi1 : ((withinL [] [99] (kS H).cells).length : Int) = 1 := by rw [hc1]; rfl
  have hi2 : ((evW [] [99] (kS H).evs).length : Int) = 1 := by rw [he1]; rfl
  have hi3 : ((evW [99] [] (kS H).evs).length : Int) = 0 := by rw [he2]; rfl
  have hi4 : (((partS (kS H) 2 [] [99] (H.key 3) (H.key 4) (H.key 5)).cells.length + (partS (kS H) 3 [99] [] (H.key 6) (H.key 7) (H.key 8)).cells.length : Nat) : Int) = 2 := by
    show (((withinL [] [99] (kS H).cells).length + (withinL [99] [] (kS H).cells).length : Nat) : Int) = 2
    rw [hc1, hc2]; rfl
  simp only [go_sem, zeroS, hi1, hi2, hi3, hi4]
  refine CL.bool (f26_ok (some 10) 10) (fun _ => ?_) (fun g => absurd rfl g)
  simp only [go_sem]
  refine CL.bool (f26_ok (some 22) 22) (fun _ => ?_) (fun g => absurd rfl g)
  simp only [go_sem]
  exact ⟨_, rfl⟩
end Go.Proofs
/- cut: CutJoins, walked. -/

set_option linter.all false
set_option linter.all false
set_option maxRecDepth 100000
namespace Go.Proofs
open Go Go.Ev
variable {H : Heap}

theorem join_ok {s t : Sh} (h : allOk H s.done) (h2 : allOk H t.done) (hc : s.cells.length + t.cells.length < 4294967296) (he : s.evs.length + t.evs.length < 4294967296) (hd : (joinP s.done t.done).length < 4294967296) {z : Bool} {id : Int} {L : List Blk} {i j k : Nat} (hi : L[i]? = some (outB 5 ((joinCells s t).map Cell.enc))) (hj : L[j]? = some (outB 4 ((joinEvs s t).map Evn.enc))) (hk : L[k]? = some (zB z 6 ((joinP s.done t.done).map Dn.enc))) :
    (joinS z s t id (H.key i) (H.key j) (H.key k)).ok (H.ext L) where
  c := arr_outV hi (by rw [List.length_map]; exact keepC_len _ _)
  e := arr_outV hj (List.length_map ..)
  d := arr_zV hk (List.length_map ..)
  dok := (joinP_ok h h2).ext L
  cl := by show (joinCells s t).length < _; rw [joinCells, keepC_len, List.length_append]; exact hc
  el := by show (joinEvs s t).length < _; rw [joinEvs, List.length_drop, List.length_append]; omega
  dl := hd
/-- a shard of whatever length -/
structure Sh.okw (H : Heap) (s : Sh) : Prop where
  c : Arr H 5 s.cv (s.cells.map Cell.enc)
  e : Arr H 4 s.ev (s.evs.map Evn.enc)
  d : Arr H 6 s.dv (s.done.map Dn.enc)
  dok : allOk H s.done
theorem Sh.okw.ext {s : Sh} (h : s.okw H) (L : List Blk) : s.okw (H.ext L) := ⟨h.c.ext L, h.e.ext L, h.d.ext L, h.dok.ext L⟩
def fewS (s : Sh) : Prop := s.cells.length ≤ 30 ∧ s.evs.length ≤ 40 ∧ s.done.length ≤ 6
instance (s : Sh) : Decidable (fewS s) := inferInstanceAs (Decidable (_ ∧ _))
theorem Sh.okw.ok {s : Sh} (h : s.okw H) (hf : fewS s) : s.ok H := ⟨h.c, h.e, h.d, h.dok, by have := hf.1; omega, by have := hf.2.1; omega, by have := hf.2.2; omega⟩
end Go.Proofs
