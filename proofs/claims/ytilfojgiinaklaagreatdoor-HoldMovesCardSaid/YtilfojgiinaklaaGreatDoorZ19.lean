/- cut: what its functions answer, as an oracle; Split: walked. -/
import Derived.Test.YtilfojgiinaklaaGreatDoorZ18
set_option linter.all false
set_option linter.all false
set_option maxRecDepth 100000
namespace Go.Proofs
open Go Go.Ev
variable {H : Heap}

section
variable {α : Type}
/-- the one that is so -/
noncomputable def theO (p : α → Prop) : Option α := open Classical in if h : ∃ x, p x then some (Classical.choose h) else none
theorem theO_eq {p : α → Prop} {x : α} (h : p x) (hu : ∀ y, p y → y = x) : theO p = some x := by
  unfold theO
  have hex : ∃ x, p x := ⟨x, h⟩
  rw [dif_pos hex]
  exact congrArg some (hu _ (Classical.choose_spec hex))
theorem theO_spec {p : α → Prop} {x : α} (h : theO p = some x) : p x := by
  unfold theO at h
  split at h
  · rename_i hex
    cases h
    exact Classical.choose_spec hex
  · cases h
noncomputable def ot (p : α → Prop) (c : α → RC) : RC := match theO p with | some x => c x | none => .fail
theorem ot_eq {p : α → Prop} {x : α} (h : p x) (hu : ∀ y, p y → y = x) (c : α → RC) : ot p c = c x := by
  unfold ot; rw [theO_eq h hu]
theorem ot_ok {p : α → Prop} {c : α → RC} {r : AV} {G : Heap} (h : ot p c = .ok r G) : ∃ x, p x ∧ c x = .ok r G := by
  unfold ot at h
  split at h
  · rename_i x hx
    exact ⟨x, theO_spec hx, h⟩
  · cases h
end
theorem Cell.enc_one {a b : Cell} (h : a.enc = b.enc) : a = b := by
  cases a; cases b; simp [Cell.enc] at h; simp [h]
theorem Evn.enc_one {a b : Evn} (h : a.enc = b.enc) : a = b := by
  cases a; cases b; simp [Evn.enc] at h; simp [h]
theorem cells_uniq {v : AV} {xs ys : List Cell} (h : Arr H 5 v (xs.map Cell.enc)) (h2 : Arr H 5 v (ys.map Cell.enc)) : xs = ys :=
  List.map_inj_right (fun _ _ => Cell.enc_one) |>.1 (Arr.uniq h h2 (by decide))
theorem evs_uniq {v : AV} {xs ys : List Evn} (h : Arr H 4 v (xs.map Evn.enc)) (h2 : Arr H 4 v (ys.map Evn.enc)) : xs = ys :=
  List.map_inj_right (fun _ _ => Evn.enc_one) |>.1 (Arr.uniq h h2 (by decide))
theorem dns_inj : ∀ {l m : List Dn}, l.map Dn.enc = m.map Dn.enc → allOk H l → allOk H m → l = m
  | [], [], _, _, _ => rfl
  | [], _ :: _, h, _, _ => by cases h
  | _ :: _, [], h, _, _ => by cases h
  | x :: l, y :: m, h, ha, hb => by
    rw [List.map_cons, List.map_cons] at h
    injection h with h1 h2
    have h3 := dns_inj h2 (fun d hd => ha d (by simp [hd])) (fun d hd => hb d (by simp [hd]))
    have hx := ha x (by simp)
    have hy := hb y (by simp)
    obtain ⟨xs, xi, xc, xv, xn, xr, xw⟩ := x
    obtain ⟨ys, yi, yc, yv, yn, yr, yw⟩ := y
    simp only [Dn.enc, List.cons.injEq, AV.int.injEq, AV.str.injEq, true_and, and_true] at h1
    obtain ⟨rfl, rfl, rfl, rfl, rfl, rfl⟩ := h1
    have : xr = yr := List.map_inj_right (fun _ _ => Rw.enc_one) |>.1 (Arr.uniq hx.1 hy.1 (by decide))
    rw [this, h3]
theorem Sh.uniq {s t : Sh} (h : s.enc = t.enc) (hs : s.ok H) (ht : t.ok H) : s = t := by
  obtain ⟨id, ep, fr, to, fz, cs, es, ds, cv, ev, dv⟩ := s
  obtain ⟨id', ep', fr', to', fz', cs', es', ds', cv', ev', dv'⟩ := t
  simp only [Sh.enc, List.cons.injEq, AV.int.injEq, AV.str.injEq, AV.bool.injEq, true_and, and_true] at h
  obtain ⟨rfl, rfl, rfl, rfl, rfl, rfl, rfl, rfl⟩ := h
  obtain rfl := cells_uniq hs.c ht.c
  obtain rfl := evs_uniq hs.e ht.e
  obtain rfl := dns_inj (Arr.uniq hs.d ht.d (by decide)) hs.dok ht.dok
  rfl
/-- what is asked of cut's functions -/
def A42 (H : Heap) (args : List AV) (s : Sh) : Prop := args = [.agg s.enc] ∧ s.ok H
def A45 (H : Heap) (args : List AV) (q : Sh × Int × List Nat × List Nat) : Prop := args = [.agg q.1.enc, .int .i64 q.2.1, .agg [.str q.2.2.1, .str q.2.2.2]] ∧ q.1.ok H ∧ q.1.done.length < 100000 ∧ q.1.evs.length < 100000
def A47 (args : List AV) (q : Option Int × Option Int) : Prop := args = [errV q.1, errV q.2]
def A51 (H : Heap) (args : List AV) (q : List Evn × List Evn) : Prop := ∃ k wr ex cap u v, args = [.slice k 0 2 1 ex cap] ∧ H.get k = some (.row wr 1 [[u], [v]]) ∧ k.toNat < H.nx.toNat ∧ Arr H 4 u (q.1.map Evn.enc) ∧ Arr H 4 v (q.2.map Evn.enc) ∧ q.1.length < 10000 ∧ q.2.length < 10000
def A52 (H : Heap) (args : List AV) (q : List Cell × List Cell) : Prop := ∃ k wr ex cap u v, args = [.slice k 0 2 1 ex cap] ∧ H.get k = some (.row wr 1 [[u], [v]]) ∧ k.toNat < H.nx.toNat ∧ Arr H 5 u (q.1.map Cell.enc) ∧ Arr H 5 v (q.2.map Cell.enc) ∧ q.1.length < 10000 ∧ q.2.length < 10000
def A50 (H : Heap) (args : List AV) (q : List Evn × List Cell) : Prop := ∃ k k', args = [outV k 4 q.1.length, outV k' 5 q.2.length, .int .i64 24] ∧ Arr H 4 (outV k 4 q.1.length) (q.1.map Evn.enc) ∧ Arr H 5 (outV k' 5 q.2.length) (q.2.map Cell.enc) ∧ q.1.length < 100000 ∧ q.2.length < 100000
noncomputable def fitsE (s : Sh) : Option Int := if isSh s ∧ ¬ s.frz = true then none else some 10
noncomputable def EP (f : FuncId) (args : List AV) (H : Heap) : RC :=
  match f with
  | 185 => ot (A42 H args) fun s => .ok (errV (fitsE s)) H
  | 188 => ot (A45 H args) fun q => .ok (.agg (partS q.1 q.2.1 q.2.2.1 q.2.2.2 (H.key 0) (H.key 1) (H.key 2)).enc) (H.ext (partB q.1 q.2.2.1 q.2.2.2))
  | 189 => ot (A47 args) fun q => .ok (errV (q.1.or q.2)) H
  | 193 => ot (A51 H args) fun q => .ok (outV H.nx 4 (q.1 ++ q.2).length) (H.ext [outB 4 ((q.1 ++ q.2).map Evn.enc)])
  | 194 => ot (A52 H args) fun q => .ok (outV H.nx 5 (q.1 ++ q.2).length) (H.ext [outB 5 ((q.1 ++ q.2).map Cell.enc)])
  | 192 => ot (A50 H args) fun q => .ok (.tup [outV (H.key 1) 4 (q.1.drop (q.1.length - 24)).length, outV (H.key 0) 5 q.2.length]) (H.ext [outB 5 ((keepC (q.1.take (q.1.length - 24)) q.2).map Cell.enc), outB 4 ((q.1.drop (q.1.length - 24)).map Evn.enc)])
  | _ => .fail
theorem good_EP : Ev.Good Tryz.prog EP := by
  intro f args H r G he φ w args' ha hw
  refine (?_ : FnOk Tryz.prog f args H fun v' G' => v' = r ∧ G' = G).one φ w args' ha hw
  unfold EP at he
  split at he
  · obtain ⟨s, ⟨rfl, h1⟩, hz⟩ := ot_ok he
    clear he
    cases hz
    exact f185_ok h1
  · obtain ⟨q, ⟨rfl, h1, h2, h3⟩, hz⟩ := ot_ok he
    clear he
    cases hz
    exact f188_ok h1 h2 h3 _ _ _
  · obtain ⟨q, rfl, hz⟩ := ot_ok he
    clear he
    cases hz
    exact f189_ok _ _
  · obtain ⟨q, ⟨k, wr, ex, cap, u, v, rfl, h1, h2, h3, h4, h5, h6⟩, hz⟩ := ot_ok he
    clear he
    cases hz
    exact f193_ok h1 h2 h3 h4 h5 h6
  · obtain ⟨q, ⟨k, wr, ex, cap, u, v, rfl, h1, h2, h3, h4, h5, h6⟩, hz⟩ := ot_ok he
    clear he
    cases hz
    exact f194_ok h1 h2 h3 h4 h5 h6
  · obtain ⟨q, ⟨k, k', rfl, h1, h2, h3, h4⟩, hz⟩ := ot_ok he
    clear he
    cases hz
    exact f192_ok rfl rfl h1 h2 h3 h4
  · cases he
theorem e42 {s : Sh} (h : s.ok H) (L : List Blk) : EP 185 [.agg [.int .i64 s.id, .int .i64 s.ep, .str s.fr, .str s.to, .bool s.frz, s.cv, s.ev, s.dv]] (H.ext L) = .ok (errV (fitsE s)) (H.ext L) := by
  show ot (A42 (H.ext L) [.agg s.enc]) (fun s => .ok (errV (fitsE s)) (H.ext L)) = _
  refine ot_eq (p := A42 (H.ext L) [.agg s.enc]) (x := s) ⟨rfl, h.ext L⟩ ?_ _
  rintro t ⟨h1, h2⟩
  injection h1 with h1 _
  injection h1 with h1
  exact (Sh.uniq h1 (h.ext L) h2).symm
theorem e45 {s : Sh} (h : s.ok H) (hd : s.done.length < 100000) (he : s.evs.length < 100000) (id : Int) (f t : List Nat) (L : List Blk) : EP 188 [.agg [.int .i64 s.id, .int .i64 s.ep, .str s.fr, .str s.to, .bool s.frz, s.cv, s.ev, s.dv], .int .i64 id, .agg [.str f, .str t]] (H.ext L) =
    .ok (.agg [.int .i64 id, .int .i64 1, .str f, .str t, .bool false, outV (H.key L.length) 5 (withinL f t s.cells).length, outV (H.key (L.length + 1)) 4 (evW f t s.evs).length, zV (nilB s.dv) (H.key (L.length + 2)) 6 s.done.length]) (H.ext (L ++ partB s f t)) := by
  show ot (A45 (H.ext L) [.agg s.enc, .int .i64 id, .agg [.str f, .str t]]) (fun q => .ok (.agg (partS q.1 q.2.1 q.2.2.1 q.2.2.2 ((H.ext L).key 0) ((H.ext L).key 1) ((H.ext L).key 2)).enc) ((H.ext L).ext (partB q.1 q.2.2.1 q.2.2.2))) = _
  rw [ot_eq (p := A45 (H.ext L) [.agg s.enc, .int .i64 id, .agg [.str f, .str t]]) (x := (s, id, f, t)) ⟨rfl, h.ext L, hd, he⟩, Heap.ext_append, Heap.key_ext, Heap.key_ext, Heap.key_ext]
  · rfl
  · rintro ⟨t', id', f', t2⟩ ⟨h1, h2, _, _⟩
    injection h1 with h1 h3
    injection h3 with h3 h4
    injection h4 with h4 _
    injection h1 with h1
    injection h3 with _ h3
    injection h4 with h4
    injection h4 with h4 h5
    injection h5 with h5 _
    injection h4 with h4
    injection h5 with h5
    rw [Sh.uniq h1 (h.ext L) h2, h3, h4, h5]
end Go.Proofs
/- cut.Split: walked. -/

set_option linter.all false
set_option linter.all false
set_option maxRecDepth 100000
namespace Go.Proofs
open Go Go.Ev
variable {H : Heap}

def zeroS : AV := .agg [.int .i64 0, .int .i64 0, .str [], .str [], .bool false, .nils, .nils, .nils]
def okSplit (s : Sh) (l r : Int) : Prop := (isSh s ∧ ¬ s.frz = true) ∧ isID l ∧ isID r ∧ ¬ l = r
def inSplit (s : Sh) (k : List Nat) : Prop := has s.fr s.to k ∧ ltS s.fr k
noncomputable def splitV (H : Heap) (s : Sh) (k : List Nat) (l r : Int) : AV := open Classical in
  if okSplit s l r then (if inSplit s k then .tup [.agg (partS s l s.fr k (H.key 0) (H.key 1) (H.key 2)).enc, .agg (partS s r k s.to (H.key 3) (H.key 4) (H.key 5)).enc, .nili] else .tup [zeroS, zeroS, .iface 63 (.int .i64 22)]) else .tup [zeroS, zeroS, .iface 63 (.int .i64 10)]
noncomputable def splitB (s : Sh) (k : List Nat) (l r : Int) : List Blk := open Classical in
  if okSplit s l r ∧ inSplit s k then partB s s.fr k ++ partB s k s.to else []
theorem f143_ok {s : Sh} (h : s.ok H) (hd : s.done.length < 100000) (he : s.evs.length < 100000) (k : List Nat) (l r : Int) :
    FnOk Tryz.prog 143 [.agg s.enc, .str k, .int .i64 l, .int .i64 r] H fun v G => v = splitV H s k l r ∧ G = H.ext (splitB s k l r) := by
  refine FnOk.assume fun hok => ?_
  refine FnOk.dropW ?_
  refine FnOk.of_WW Tryz.func143 rfl C143ok R143ok EP good_EP ?_
  have cren := h.c.ren
  have eren := h.e.ren
  have dren := h.d.ren
  have drens := h.dok.rens
  have hbad : ¬ okSplit s l r → ∀ L, ∃ l_1 σ, AV.tup [zeroS, zeroS, .iface 63 (.int .i64 10)] = AV.ren (rho H l_1.length σ) (splitV H s k l r) ∧ H.ext L = H.ext l_1 ∧ (splitB s k l r).length = σ.length ∧ σ.Nodup ∧ WkB l_1 (rho H l_1.length σ) (splitB s k l r) σ := fun g L => by
    unfold splitV splitB
    rw [if_neg g, if_neg fun h => g h.1]
    exact ⟨L, [], by simp only [zeroS, AV.ren, AV.rens], rfl, rfl, by decide, by simp only [go_sem]⟩
  simp only [zeroS] at hbad
  simp only [go_sem, C143, Sh.enc]
  refine CL.of (f185_ok (h.ext _)) ?_
  rintro _ G' ⟨rfl, hG⟩
  rw [hG]
  clear hG
  simp only [go_sem]
  refine CL.bool (f43_ok _ 10) (fun g => ?_) (fun g => ?_)
  · simp only [go_sem]
    exact hbad (fun h => by rw [if_pos h.1] at g; cases g) _
  have hok1 : isSh s ∧ ¬ s.frz = true := Classical.byContradiction fun h => g (if_neg h)
  rw [if_pos hok1]
  simp only [go_sem, errV]
  refine CL.bool (f186_ok l) (fun g1 => ?_) (fun g1 => ?_)
  rotate_left
  · simp only [go_sem]
    exact hbad (fun h => g1 h.2.1) _
  simp only [go_sem]
  refine CL.bool (f186_ok r) (fun g2 => ?_) (fun g2 => ?_)
  rotate_left
  · simp only [go_sem]
    exact hbad (fun h => g2 h.2.2.1) _
  simp only [go_sem]
  refine ⟨fun g3 => hbad (fun h => h.2.2.2 g3) _, fun g3 => ?_⟩
  have hoks : okSplit s l r := ⟨hok1, g1, g2, g3⟩
  refine CL.of (f187_ok s.fr s.to k) ?_
  rintro _ G' ⟨rfl, hG⟩
  rw [hG]
  clear hG
  by_cases hin : has s.fr s.to k ∧ ltS s.fr k
  · rw [if_pos hin]
    have e1 := e45 h hd he l s.fr k
    have e2 := e45 h hd he r k s.to
    simp only [partB] at e1 e2
    simp only [go_sem, e1, e2]
    unfold splitV splitB
    rw [if_pos hoks, if_pos (show inSplit s k from hin), if_pos ⟨hoks, hin⟩]
    exact ⟨_, [5, 6, 7, 8, 9, 10], by simp only [partS, Sh.enc, outV_ren', zV_ren, go_sem], rfl, rfl, by decide, by simp only [partB, go_sem, ↓outB_ren', ↓zB_ren, drens, Cell.map_rens, Evn.map_rens, implies_true]⟩
  · rw [if_neg hin]
    simp only [go_sem]
    unfold splitV splitB
    rw [if_pos hoks, if_neg (show ¬ inSplit s k from hin), if_neg fun h => hin h.2]
    exact ⟨_, [], by simp only [zeroS, AV.ren, AV.rens], rfl, rfl, by decide, by simp only [go_sem]⟩
end Go.Proofs
/- cut: the plain law of parts. -/



set_option linter.all false
set_option linter.all false
set_option maxRecDepth 100000
namespace Go.Proofs
open Go Go.Ev
variable {H : Heap}

abbrev Ord (l : List Cell) : Prop := List.Pairwise (fun x y : Cell => ltS x.key y.key) l
theorem isIdx_all {l : List Cell} (h : isIdx l) : ∀ c ∈ l, cellIs c := fun c hc => h.cell hc
theorem isIdx_of {l : List Cell} (h : ∀ c ∈ l, cellIs c) (ho : Ord l) : isIdx l := by
  intro j hj
  refine ⟨l[j], List.getElem?_eq_getElem hj, h _ (List.getElem_mem hj), fun h0 => ⟨l[j - 1], List.getElem?_eq_getElem (by omega), ?_⟩⟩
  exact (List.pairwise_iff_getElem.1 ho) (j - 1) j (by omega) hj (by omega)
theorem isIdx_filter {l : List Cell} (h : isIdx l) (p : Cell → Bool) : isIdx (l.filter p) :=
  isIdx_of (fun c hc => isIdx_all h c (List.mem_filter.1 hc).1) ((isIdx_pair h).filter p)
theorem getL_true {k : List Nat} : ∀ {l : List Cell}, (getL l k).2 = true ↔ ∃ c ∈ l, c.key = k
  | [] => by simp [getL]
  | c :: l => by
    rw [getL]
    by_cases h : c.key = k
    · rw [if_pos h]; exact ⟨fun _ => ⟨c, by simp, h⟩, fun _ => rfl⟩
    · rw [if_neg h, getL_true]
      constructor
      · rintro ⟨d, h1, h2⟩; exact ⟨d, by simp [h1], h2⟩
      · rintro ⟨d, h1, h2⟩
        rcases List.mem_cons.1 h1 with rfl | h1
        · exact absurd h2 h
        · exact ⟨d, h1, h2⟩
theorem runR_filter {c : Cell} {p : Evn → Bool} : ∀ {l : List Evn} {v : Int}, (∀ e ∈ l, e.key = c.key → p e = true) → runR c (l.filter p) v = runR c l v
  | [], v, _ => rfl
  | e :: l, v, h => by
    have h' : ∀ e ∈ l, e.key = c.key → p e = true := fun e he => h e (by simp [he])
    by_cases hk : e.key = c.key
    · rw [List.filter_cons_of_pos (h e (by simp) hk), runR, runR, if_pos hk, if_pos hk]
      split
      · exact runR_filter h'
      · rfl
    · rw [runR, if_neg hk]
      by_cases hp : p e = true
      · rw [List.filter_cons_of_pos hp, runR, if_neg hk, runR_filter h']
      · rw [List.filter_cons_of_neg hp, runR_filter h']
theorem runR_none {c : Cell} : ∀ {l : List Evn} {v : Int}, (∀ e ∈ l, ¬ e.key = c.key) → runR c l v = some v
  | [], v, _ => rfl
  | e :: l, v, h => by
    rw [runR, if_neg (h e (by simp)), runR_none fun e he => h e (by simp [he])]
theorem runR_append {c : Cell} : ∀ {a b : List Evn} {v : Int}, runR c (a ++ b) v = (runR c a v).bind fun w => runR c b w
  | [], b, v => rfl
  | e :: a, b, v => by
    rw [List.cons_append, runR, runR]
    split
    · split
      · exact runR_append
      · rfl
    · exact runR_append
section
variable {s : Sh} {k : List Nat}
theorem inSplit.key (h : inSplit s k) : isKey k := h.1.2.1
theorem inSplit.lo (h : inSplit s k) : isSpan s.fr k := ⟨h.1.1.1, h.key.2, .inr h.2⟩
theorem inSplit.hi (h : inSplit s k) : isSpan k s.to := ⟨h.key.2, h.1.1.2.1, h.1.2.2.2⟩
/-- what has happened is that of the cells within -/
theorem hist_part (hs : isSh s) (f t : List Nat) : isHist (evW f t s.evs) (withinL f t s.cells) := by
  have hh := hs.2.2.2.2.1
  refine ⟨isIdx_filter hh.1 _, fun e he => ?_, fun c hc => ?_⟩
  · obtain ⟨h1, h2⟩ := List.mem_filter.1 he
    obtain ⟨c, h3, h4⟩ := getL_true.1 (hh.2.1 e h1).1
    exact ⟨getL_true.2 ⟨c, List.mem_filter.2 ⟨h3, by rw [h4]; exact h2⟩, h4⟩, (hh.2.1 e h1).2⟩
  · obtain ⟨h1, h2⟩ := List.mem_filter.1 hc
    have := ofH_iff.1 (hh.2.2 c h1)
    rw [ofH_iff, evW, runR_filter (fun e _ g => by rw [g]; exact h2)]
    exact this
theorem part_sh (hs : isSh s) {f t : List Nat} (hsp : isSpan f t) {id : Int} (hid : isID id) (k0 k1 k2 : K) : isSh (partS s id f t k0 k1 k2) := by
  refine ⟨⟨hid.1, hid.2, by show (1 : Int) ≤ 1; decide, by show (1 : Int) ≤ 1000000; decide⟩, hsp, fun c hc => ?_, ?_, hist_part hs f t, hs.2.2.2.2.2⟩
  · exact of_decide_eq_true (List.mem_filter.1 hc).2
  · show ((evW f t s.evs).length : Int) ≤ 24
    have h1 := hs.2.2.2.1
    have h2 : (evW f t s.evs).length ≤ s.evs.length := List.length_filter_le ..
    omega
section
variable {l r id : Int} {k0 k1 k2 k3 k4 k5 : K}
end
end
end Go.Proofs
/- cut: what is known, walked. -/

set_option linter.all false
set_option linter.all false
set_option maxRecDepth 100000
namespace Go.Proofs
open Go Go.Ev
variable {H : Heap}

theorem part_ok' {s : Sh} (hdk : allOk H s.done) (hcl : s.cells.length < 4294967296) (hel : s.evs.length < 4294967296) (hdl : s.done.length < 4294967296) {L : List Blk} {a b c : Nat} (id : Int) (f t : List Nat) (ha : L[a]? = some (outB 5 ((withinL f t s.cells).map Cell.enc))) (hb : L[b]? = some (outB 4 ((evW f t s.evs).map Evn.enc))) (hc : L[c]? = some (zB (nilB s.dv) 6 (s.done.map Dn.enc))) :
    (partS s id f t (H.key a) (H.key b) (H.key c)).ok (H.ext L) where
  c := arr_outV ha (List.length_map ..)
  e := arr_outV hb (List.length_map ..)
  d := arr_zV hc (List.length_map ..)
  dok := hdk.ext L
  cl := Nat.lt_of_le_of_lt (List.length_filter_le ..) hcl
  el := Nat.lt_of_le_of_lt (List.length_filter_le ..) hel
  dl := hdl
theorem part_ok {s : Sh} (h : s.ok H) {L : List Blk} {a b c : Nat} (id : Int) (f t : List Nat) (ha : L[a]? = some (outB 5 ((withinL f t s.cells).map Cell.enc))) (hb : L[b]? = some (outB 4 ((evW f t s.evs).map Evn.enc))) (hc : L[c]? = some (zB (nilB s.dv) 6 (s.done.map Dn.enc))) :
    (partS s id f t (H.key a) (H.key b) (H.key c)).ok (H.ext L) := part_ok' h.dok h.cl h.el h.dl id f t ha hb hc
theorem lt_cm : ltS [99] [109] := (ltS_cons ..).2 (.inl (by decide))
theorem k_span : isSpan [] [] := ⟨by decide, by decide, .inl rfl⟩
theorem k_has (k : Nat) : has [] [] [k] := ⟨k_span, ⟨by simp, by show (1 : Int) ≤ 8; decide⟩, not_ltS_nil _, .inl rfl⟩
end Go.Proofs
/- cut: CutJoins, walked. -/

set_option linter.all false
set_option linter.all false
set_option maxRecDepth 100000
namespace Go.Proofs
open Go Go.Ev
variable {H : Heap}

/-- a shard of whatever length -/
structure Sh.okw (H : Heap) (s : Sh) : Prop where
  c : Arr H 5 s.cv (s.cells.map Cell.enc)
  e : Arr H 4 s.ev (s.evs.map Evn.enc)
  d : Arr H 6 s.dv (s.done.map Dn.enc)
  dok : allOk H s.done
theorem Sh.okw.ext {s : Sh} (h : s.okw H) (L : List Blk) : s.okw (H.ext L) := ⟨h.c.ext L, h.e.ext L, h.d.ext L, h.dok.ext L⟩
def fewS (s : Sh) : Prop := s.cells.length ≤ 30 ∧ s.evs.length ≤ 40 ∧ s.done.length ≤ 6
instance (s : Sh) : Decidable (fewS s) := inferInstanceAs (Decidable (_ ∧ _))
theorem Sh.okw.ok {s : Sh} (h : s.okw H) (hf : fewS s) : s.ok H := ⟨h.c, h.e, h.d, h.dok, by have := hf.1; omega, by have := hf.2.1; omega, by have := hf.2.2; omega⟩
end Go.Proofs
