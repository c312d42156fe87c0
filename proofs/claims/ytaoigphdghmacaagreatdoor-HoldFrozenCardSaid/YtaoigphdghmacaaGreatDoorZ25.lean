/- a shard put in the place of its number's: walked. -/
import Derived.Test.YtaoigphdghmacaaGreatDoorZ24
set_option linter.all false
set_option linter.all false
set_option maxRecDepth 100000
namespace Go.Proofs
open Go Go.Ev
variable {H : Heap}

/-- what else there was is there still; nothing else was changed -/
structure Nx (k : K) (G G' : Heap) : Prop where
  keep : ∀ j b, k ≠ j → G.get j = some b → G'.get j = some b
  own : ∀ B : Heap, (∃ L, G = B.ext L) → B.nx.toNat ≤ k.toNat → ∃ L, G' = B.ext L
  le : G.nx.toNat ≤ G'.nx.toNat
theorem Nx.refl (k : K) (G : Heap) : Nx k G G := ⟨fun _ _ _ h => h, fun _ h _ => h, Nat.le_refl _⟩
theorem Nx.trans {k : K} {A B C : Heap} (h : Nx k A B) (g : Nx k B C) : Nx k A C := ⟨fun j b hj hb => g.keep j b hj (h.keep j b hj hb), fun D hD hk => g.own D (h.own D hD hk) hk, Nat.le_trans h.le g.le⟩
theorem ext_own {B G : Heap} (hB : ∃ L, G = B.ext L) (M : List Blk) : ∃ L, G.ext M = B.ext L := by
  obtain ⟨L, rfl⟩ := hB
  exact ⟨_, Heap.ext_append ..⟩
theorem Nx.set {k : K} {G : Heap} (hok : G.ok) {c : Blk} (hk : G.get k = some c) (b : Blk) (L : List Blk) : Nx k G ((G.set k b).ext L) :=
  ⟨fun j d hj hd => Heap.get_set_there hok hd hj b L, fun _ hB hl => ext_own (set_own hok hk hB hl) L, by rw [Heap.nx_ext, Heap.toNat_key]; exact Nat.le_add_right _ _⟩
theorem Nx.ext {k : K} {G : Heap} (hok : G.ok) (L : List Blk) : Nx k G (G.ext L) := ⟨fun j d _ hd => Heap.get_ext_old hok hd L, fun _ hB _ => ext_own hB L, by rw [Heap.nx_ext, Heap.toNat_key]; exact Nat.le_add_right _ _⟩
theorem Nx.arr {k : K} {G G' : Heap} (h : Nx k G G') {wr : Bool} {rows : List (List AV)} (hk : G.get k = some (.row wr 2 rows)) {e : Nat} (he : e ≠ 2) {v : AV} {xs : List (List AV)} (hA : Arr G e v xs) : Arr G' e v xs := by
  rcases hA with g | ⟨c, off, ex, cap, hv, hc, g⟩
  · exact .inl g
  · refine .inr ⟨c, off, ex, cap, hv, Nat.lt_of_lt_of_le hc h.le, fun hx => ?_⟩
    obtain ⟨r, wr', rows', h1, h2, h3⟩ := g hx
    refine ⟨r, wr', rows', h1, h.keep c _ ?_ h2, h3⟩
    rintro rfl
    rw [hk] at h2
    injection h2 with h2
    injection h2 with _ h2 _
    exact he h2.symm
theorem Nx.sh {k : K} {G G' : Heap} (h : Nx k G G') {wr : Bool} {rows : List (List AV)} (hk : G.get k = some (.row wr 2 rows)) {s : Sh} (hs : s.ok G) (hb : smallS s) : s.ok G' :=
  ⟨h.arr hk (by decide) hs.c, h.arr hk (by decide) hs.e, h.arr hk (by decide) hs.d, bareL.ok hb.b _, hs.cl, hs.el, hs.dl⟩
section
variable {G : Heap} {k : K} {lv gv : AV} {hs : List Sh} {gs : List Gn}
theorem gone_set (h : isHd G k lv gv hs gs) (b : Blk) : Arr (G.set k b) 2 gv (gs.map Gn.enc) := by
  rcases h.g with g | ⟨j, off, ex, cap, hv, hj, g⟩
  · exact .inl g
  · refine .inr ⟨j, off, ex, cap, hv, hj, fun hx => ?_⟩
    obtain ⟨r, wr', rows', h1, h2, h3⟩ := g hx
    refine ⟨r, wr', rows', h1, ?_, h3⟩
    rw [Heap.get_set, if_neg fun e => ?_]
    · exact h2
    · subst e
      have h4 := h.row
      rw [h2] at h4
      have h5 := Option.some.inj h4
      injection h5 with _ _ h5
      subst h5
      have hl := h.l
      cases gs with
      | nil => exact hx rfl
      | cons c l =>
        cases r with
        | zero =>
          have h6 := congrArg (fun z => z[0]?) h3
          simp only [List.map_cons, List.length_cons, List.drop_zero, List.take_succ_cons, List.getElem?_cons_zero, Gn.enc] at h6
          have h7 := Option.some.inj h6
          injection h7 with h7 _
          subst h7
          rcases hl with ⟨e, _⟩ | ⟨_, _, _, _, e, _⟩ <;> cases e
        | succ r => simp at h3
theorem ok_set' {s : Sh} (h : isHd G k lv gv hs gs) (hs' : s.ok G) (hb : smallS s) (b : Blk) : s.ok (G.set k b) :=
  ⟨hs'.c.set h.row (by decide), hs'.e.set h.row (by decide), hs'.d.set h.row (by decide), bareL.ok hb.b _, hs'.cl, hs'.el, hs'.dl⟩
theorem isHd.put {hs' : List Sh} (h : isHd G k lv gv hs gs) {L : List Blk} {j : Nat} (hj : L[j]? = some (.row true 8 (hs'.map Sh.enc))) (ho : ∀ s ∈ hs', s.ok G) (hsm : ∀ s ∈ hs', smallS s) (hl : hs'.length ≤ 8) (cap : Nat) (ex : Bool) :
    isHd ((G.set k (.row true 2 [[.slice (G.key j) 0 hs'.length 8 ex cap, gv]])).ext L) k (.slice (G.key j) 0 hs'.length 8 ex cap) gv hs' gs := by
  have hok := Heap.ok_ext (Heap.ok_set h.ok h.row (b := .row true 2 [[.slice (G.key j) 0 hs'.length 8 ex cap, gv]])) L
  have hjl := (List.getElem?_eq_some_iff.1 hj).1
  have hg : ((G.set k (.row true 2 [[.slice (G.key j) 0 hs'.length 8 ex cap, gv]])).ext L).get (G.key j) = some (.row true 8 (hs'.map Sh.enc)) := by rw [Heap.get_key_set hjl, hj]
  refine ⟨hok, Heap.get_set_here h.ok h.row _ L, .inr ⟨G.key j, 0, ex, cap, by rw [List.length_map], hok _ _ hg, fun _ => ⟨0, true, _, rfl, hg, ?_⟩⟩, (gone_set h _).ext L, fun s hs => (ok_set' h (ho s hs) (hsm s hs) _).ext L, hsm, hl, h.few.2⟩
  rw [List.drop_zero, List.take_length]
theorem f98_ok {H : Heap} {c : K} {wr : Bool} {s : Sh} (hk : H.get c = some (.row wr 8 [s.enc])) (o : Sh) : FnOk Tryz.prog 98 [.agg o.enc, .ptr c 0] H fun r G => r = .bool (decide (o.id = s.id)) ∧ G = H := by
  refine FnOk.assume fun hok => ?_
  refine FnOk.drop (R := fun r => r = .bool (decide (o.id = s.id))) ?_ (by rintro v rfl ρ; rw [AV.ren])
  refine FnOk.of_WW Tryz.func98 rfl C98ok R98ok E0 good_E0 ?_
  have hgo := Heap.get_ext_old hok hk
  simp only [Sh.enc] at hgo
  simp only [go_sem, C98, Sh.enc, hgo]
  exact ⟨fun h => ⟨bool_t h, _, rfl⟩, fun h => ⟨bool_f h, _, rfl⟩⟩
theorem clo97 : CloFn Tryz.prog 97 8 128 [.int .i64 0, .int .i64 0, .str [], .str [], .bool false, .nils, .nils, .nils] := ⟨⟨Tryz.f97, Tryz.func97, by kernel_rfl, by kernel_rfl⟩, rfl, by decide⟩
theorem shs_rens {l : List Sh} (h : ∀ s ∈ l, s.ok G) (top : Nat) (σ : List Nat) : (l.map Sh.enc).map (AV.rens (rho G top σ)) = l.map Sh.enc := by
  rw [List.map_map]
  exact List.map_congr_left fun s hs => (h s hs).ren top σ
/-- in the place of the only one -/
theorem f52_same {o s : Sh} (h : isHd G k lv gv [o] gs) (hid : o.id = s.id) (hs : s.ok G) (hsm : smallS s) : FnOk Tryz.prog 52 [.ptr k 0, .agg s.enc] G fun r G' => r = .tup [] ∧ (∃ lv', isHd G' k lv' gv [s] gs) ∧ Nx k G G' := by
  refine FnOk.of_WW Tryz.func52 rfl C52ok R52ok E0 good_E0 ?_
  have hk : ∀ L, (G.ext L).get k = _ := fun L => Heap.get_ext_old h.ok h.row L
  have hset := fun b (l : List Blk) (α : Type) (c' : Heap → α) => Heap.setC_here h.ok h.row b l c'
  have hset2 := fun b d (l : List Blk) (α : Type) (c' : Heap → α) => Heap.setC_set_here h.ok h.row b d l c'
  have hk2 := fun b (l : List Blk) => Heap.get_set_here h.ok h.row b l
  simp only [go_sem, C52, hk, Sh.enc]
  refine CL.of (clone_zd clo97 (h.l.ext _) (by show (2 * 1 + 192) * 128 ≤ 281474976710656; decide) (fun top σ => shs_rens (fun s hs => (h.each s hs).ext _) top σ)) ?_
  rintro _ _ ⟨rfl, rfl⟩
  simp only [go_sem, zV_pos (show 0 < 0 + 1 from Nat.zero_lt_succ 0), zB_pos (show 0 < [o.enc].length from Nat.zero_lt_succ 0)]
  refine CL.of (f96_only (q := fun o => decide (o.id = s.id)) (Heap.ok_ext h.ok _) (get_lit rfl) (fun _ _ => call98 ..) (fun top σ => by exact cap_lit (Nat.zero_lt_succ _) 98 top σ) (fun L => by exact f98_ok (s := s) (get_lit2 rfl) o) (decide_eq_true hid)) ?_
  rintro _ G' ⟨rfl, hG⟩
  rw [hG, Heap.set_ext_key _ _ _ _ (by exact Nat.lt_succ_self 1)]
  clear hG
  simp only [go_sem, hk, hset, hset2, hk2]
  have hput := fun L (hj : L[1]? = some (.row true 8 ([s].map Sh.enc))) => isHd.put (hs' := [s]) h (L := L) (j := 1) hj (fun x hx => by rw [List.mem_singleton.1 hx]; exact hs) (fun x hx => by rw [List.mem_singleton.1 hx]; exact hsm) (by show 1 ≤ 8; decide) 1 false
  refine CL.of (f46_ok (hput _ (by rfl)) (Nat.le_refl 1)) ?_
  rintro _ G' ⟨rfl, hG⟩; rw [hG]; clear hG
  simp only [go_sem]
  exact ⟨⟨_, hput _ rfl⟩, Nx.set h.ok h.row _ _⟩
end
end Go.Proofs
/- errors.As, of numbers: by its contract, as a law of memories. -/

set_option linter.all false
set_option linter.all false
set_option maxRecDepth 100000
namespace Go.Proofs
open Go Go.Ev
variable {H : Heap}

section
variable {P : Program} {φ : Phi} {w : World}
theorem cell_of_row (hw : WRel P φ H w) {k : K} {x : AV} {a : At} (hk : H.get k = some (.row true 1 [[x]])) (hφ : φ k = some a) : ∃ v, w.cell? ⟨a.b, a.o, none⟩ = some v ∧ VRel P φ x v ∧ w.frozen? ⟨a.b, a.o, none⟩ = false := by
  obtain ⟨hp, _, pre, vs, post, e, lo, hi, g1, g2, g3, g4, g5, g6⟩ := hw.blk k _ a hk hφ
  have g5 : VRels P φ [x] vs := g5
  cases g5 with
  | cons _ _ v l h1 h2 =>
    cases h2
    refine ⟨v, ?_, h1, ?_⟩
    · simp only [World.cell?, g1]
      simp [← g2]
    · simp only [World.frozen?, g1]
      have h4 := g4 rfl
      simp at g3 ⊢
      omega
/-- a call that writes a number into a cell -/
theorem FnOk.of_calls_set {f : FuncId} {args : List AV} {k : K} {x y v : AV} {y' : Value} (hk : H.get k = some (.row true 1 [[x]])) (hy : ∀ φ, VRel P φ y y') (hone : y'.oneCell' = true) (hv : ∀ φ, ∃ v', VRel P φ v v')
    (h : ∀ φ w args', VRels P φ args args'.toList → WRel P φ H w → ∃ a, φ k = some a ∧ ∀ old, w.cell? ⟨a.b, a.o, none⟩ = some old → w.frozen? ⟨a.b, a.o, none⟩ = false →
      Calls P f args' w fun e u => (∃ v', e = .returned v' ∧ VRel P φ v v') ∧ ∃ w4, Grows w w4 ∧ u = w4.setCell ⟨a.b, a.o, none⟩ y') :
    FnOk P f args H fun r G => r = v ∧ G = H.set k (.row true 1 [[y]]) := by
  intro φ w args' ha hw
  obtain ⟨a, hφ, hc⟩ := h φ w args' ha hw
  obtain ⟨old, h1, _, h2⟩ := cell_of_row hw hk hφ
  refine (hc old h1 h2).mono ?_
  rintro e u ⟨⟨v', rfl, hv'⟩, w4, hg, rfl⟩
  have hw4 := hw.grows hg.size hg.old
  obtain ⟨old4, h14, _, h24⟩ := cell_of_row hw4 hk hφ
  obtain ⟨u, hst, hwu, hE⟩ := storeCells_sound (off := 0) (vals := [y]) (vals' := [y']) (rows' := [[y]]) hw4 hk hφ (.cons _ _ _ _ (hy φ) .nil) (by intro z hz; rw [List.mem_singleton.1 hz]; exact hone) (put_rows 1 [[x]] [[y]] 0 (by intro z hz; rw [List.mem_singleton.1 hz]; rfl) (by intro z hz; rw [List.mem_singleton.1 hz]; rfl) (Nat.le_refl 1))
  have hst' : (storeCells ⟨a.b, a.o, none⟩ [y']).run P w4 = .ok () (w4.setCell ⟨a.b, a.o, none⟩ y') := by
    simp only [storeCells, Addr.add, Sem.run_bind, Nat.add_zero, if_true]
    rw [run_store P w4 _ _ _ hone, h14]
    simp [h24]
  rw [Nat.add_zero] at hst
  rw [hst] at hst'
  injection hst' with _ hu
  subst hu
  refine ⟨v, _, ⟨rfl, rfl⟩, φ, v', rfl, hv', hwu, ?_⟩
  exact ⟨hE.phi, hE.nx, Nat.le_trans hg.size hE.size, fun b hb hn => by rw [hE.keeps b (Nat.lt_of_lt_of_le hb hg.size) hn, hg.old b hb], hE.hidden, fun b hb ho => hE.own b (Nat.lt_of_lt_of_le hb hg.size) ho, hE.os.trans hg.os, hE.tape.trans hg.tape, hE.output.trans hg.output⟩
end
theorem f22_none (x : AV) : FnOk Tryz.prog 22 [.nili, x] H fun r G => r = .bool false ∧ G = H := by
  refine FnOk.of_calls fun φ w args' ha hw => ?_
  obtain ⟨v, u, rfl, h1, h2⟩ := two_args ha
  have e1 := errV_inv (e := none) h1
  obtain rfl : v = .nilIface := e1
  refine (as_nil u w).mono ?_
  rintro e w' ⟨rfl, rfl⟩
  exact ⟨⟨_, rfl, .bool _⟩, Grows.refl _⟩
theorem f22_some {k : K} {x : AV} (hk : H.get k = some (.row true 1 [[x]])) (n : Int) : FnOk Tryz.prog 22 [.iface 51 (.int .i64 n), .iface 64 (.ptr k 0)] H fun r G => r = .bool true ∧ G = H.set k (.row true 1 [[.int .i64 n]]) := by
  refine FnOk.of_calls_set (y' := .int .i64 n) hk (fun φ => .int _ _) rfl (fun φ => ⟨_, .bool _⟩) fun φ w args' ha hw => ?_
  obtain ⟨v, u, rfl, h1, h2⟩ := two_args ha
  have e1 := errV_inv (e := some n) h1
  obtain rfl : v = .iface 51 (.int .i64 n) := e1
  cases h2 with
  | iface _ _ u' h2 =>
    cases h2 with
    | ptr _ _ a ha2 =>
      refine ⟨a, ha2, fun old ho hf => ?_⟩
      refine (as_hit n ⟨a.b, a.o, none⟩ old w (hw.rom 0 _ (List.mem_singleton.2 rfl)).1 ho hf).mono ?_
      rintro e w' ⟨rfl, rfl⟩
      exact ⟨⟨_, rfl, .bool _⟩, _, (((Grows.alloc _ _).trans (Grows.alloc _ _)).trans (Grows.alloc _ _)).trans (Grows.alloc _ _), rfl⟩
end Go.Proofs
/- a shard of an epoch; what is done to a shard that is there: walked. -/

set_option linter.all false
set_option linter.all false
set_option maxRecDepth 100000
namespace Go.Proofs
open Go Go.Ev
variable {H : Heap}

section
variable {G : Heap} {k : K} {lv gv : AV} {hs : List Sh} {gs : List Gn}
theorem f54_yes (h : isHd G k lv gv hs gs) {n e : Int} {i : Nat} {s : Sh} (hx : idx (fun s => decide (s.id = n)) hs 0 = i) (hi : hs[i]? = some s) (he : s.ep = e) : FnOk Tryz.prog 54 [.ptr k 0, .int .i64 n, .int .i64 e] G fun r G' => r = .tup [.agg (s.cop (G.key 0) (G.key 1) (G.key 2)).enc, .nili] ∧ G' = G.ext (copB s) := by
  refine FnOk.dropW ?_
  refine FnOk.of_WW Tryz.func54 rfl C54ok R54ok E0 good_E0 ?_
  have hsm := h.small s (List.mem_of_getElem? hi)
  have drn := bareL.rens hsm.b
  simp only [go_sem, C54]
  refine CL.of (f12_yes (h.ext _) _ hx hi) ?_
  rintro _ _ ⟨rfl, rfl⟩
  simp only [go_sem, Sh.enc, Sh.cop, copB, Heap.key_ext, he]
  exact ⟨_, [1, 2, 3], by simp only [zV_ren, go_sem], rfl, rfl, by decide, by simp only [go_sem, zV_ren, ↓zB_ren, Cell.map_rens, Evn.map_rens, drn, implies_true]⟩
theorem f54_no (h : isHd G k lv gv hs gs) {n : Int} (e : Int) (hx : idx (fun s => decide (s.id = n)) hs 0 = -1) : FnOk Tryz.prog 54 [.ptr k 0, .int .i64 n, .int .i64 e] G fun r G' => r = .tup [.agg zS, .iface 51 (.int .i64 14)] ∧ G' = G := by
  refine FnOk.drop (R := fun r => r = .tup [.agg zS, .iface 51 (.int .i64 14)]) ?_ (by rintro v rfl ρ; simp only [zS, AV.ren, AV.rens])
  refine FnOk.of_WW Tryz.func54 rfl C54ok R54ok E0 good_E0 ?_
  simp only [go_sem, C54]
  refine CL.of (f12_no (h.ext _) n hx) ?_
  rintro _ G' ⟨rfl, hG⟩; rw [hG]; clear hG
  simp only [go_sem, zS]
  exact ⟨_, rfl⟩
theorem f54_late (h : isHd G k lv gv hs gs) {n e : Int} {i : Nat} {s : Sh} (hx : idx (fun s => decide (s.id = n)) hs 0 = i) (hi : hs[i]? = some s) (he : ¬ s.ep = e) : FnOk Tryz.prog 54 [.ptr k 0, .int .i64 n, .int .i64 e] G fun r G' => r = .tup [.agg zS, .iface 51 (.int .i64 14)] ∧ G' = G := by
  refine FnOk.drop (R := fun r => r = .tup [.agg zS, .iface 51 (.int .i64 14)]) ?_ (by rintro v rfl ρ; simp only [zS, AV.ren, AV.rens])
  refine FnOk.of_WW Tryz.func54 rfl C54ok R54ok E0 good_E0 ?_
  simp only [go_sem, C54]
  refine CL.of (f12_yes (h.ext _) _ hx hi) ?_
  rintro _ _ ⟨rfl, rfl⟩
  have z1 := eq_false he
  simp only [go_sem, Sh.enc, Sh.cop, copB, Heap.key_ext, z1, zS]
  exact ⟨_, rfl⟩
theorem f21_none (h : isHd G k lv gv hs gs) (kind : Int) {n0 n1 : Int} (n2 n3 n4 : Int) (x0 x1 x2 x3 x4 x5 x6 x7 x8 x9 : AV) (hx : idx (fun s => decide (s.id = n0)) hs 0 = -1) : FnOk Tryz.prog 21 [.ptr k 0, .agg [.int .i64 kind, .int .i64 n0, .int .i64 n1, .int .i64 n2, .int .i64 n3, .int .i64 n4, x0, x1, x2, x3, x4, x5, x6, x7, x8, x9]] G fun r G' => r = .iface 51 (.int .i64 14) ∧ G' = G := by
  refine FnOk.drop (R := fun r => r = .iface 51 (.int .i64 14)) ?_ (by rintro v rfl ρ; simp only [AV.ren, AV.rens])
  refine FnOk.of_WW Tryz.func21 rfl C21ok R21ok E0 good_E0 ?_
  simp only [go_sem, C21]
  refine CL.of (f54_no (h.ext _) n1 hx) ?_
  rintro _ G' ⟨rfl, hG⟩; rw [hG]; clear hG
  simp only [go_sem, zS]
  exact ⟨_, rfl⟩
theorem f21_late (h : isHd G k lv gv hs gs) (kind : Int) {n0 n1 : Int} (n2 n3 n4 : Int) (x0 x1 x2 x3 x4 x5 x6 x7 x8 x9 : AV) {i : Nat} {s : Sh} (hx : idx (fun s => decide (s.id = n0)) hs 0 = i) (hi : hs[i]? = some s) (he : ¬ s.ep = n1) : FnOk Tryz.prog 21 [.ptr k 0, .agg [.int .i64 kind, .int .i64 n0, .int .i64 n1, .int .i64 n2, .int .i64 n3, .int .i64 n4, x0, x1, x2, x3, x4, x5, x6, x7, x8, x9]] G fun r G' => r = .iface 51 (.int .i64 14) ∧ G' = G := by
  refine FnOk.drop (R := fun r => r = .iface 51 (.int .i64 14)) ?_ (by rintro v rfl ρ; simp only [AV.ren, AV.rens])
  refine FnOk.of_WW Tryz.func21 rfl C21ok R21ok E0 good_E0 ?_
  simp only [go_sem, C21]
  refine CL.of (f54_late (h.ext _) hx hi he) ?_
  rintro _ G' ⟨rfl, hG⟩; rw [hG]; clear hG
  simp only [go_sem, zS]
  exact ⟨_, rfl⟩
theorem f21_drop (h : isHd G k lv gv hs gs) {n0 n1 : Int} (n2 n3 n4 : Int) (x0 x1 x2 x3 x4 x5 x6 x7 x8 x9 : AV) {i : Nat} {s : Sh} (hx : idx (fun s => decide (s.id = n0)) hs 0 = i) (hi : hs[i]? = some s) (he : s.ep = n1) (hf : s.frz = false) (kind : Int) (hk : kind = 6) : FnOk Tryz.prog 21 [.ptr k 0, .agg [.int .i64 kind, .int .i64 n0, .int .i64 n1, .int .i64 n2, .int .i64 n3, .int .i64 n4, x0, x1, x2, x3, x4, x5, x6, x7, x8, x9]] G fun r G' => r = .iface 51 (.int .i64 14) ∧ G' = G := by
  subst hk
  refine FnOk.drop (R := fun r => r = .iface 51 (.int .i64 14)) ?_ (by rintro v rfl ρ; simp only [AV.ren, AV.rens])
  refine FnOk.of_WW Tryz.func21 rfl C21ok R21ok E0 good_E0 ?_
  simp only [go_sem, C21]
  refine CL.of (f54_yes (h.ext _) hx hi he) ?_
  rintro _ _ ⟨rfl, rfl⟩
  simp only [go_sem, Sh.enc, Sh.cop, copB, Heap.key_ext, hf]
  exact ⟨_, rfl⟩
theorem smallS.con {s : Sh} (h : smallS s) (id ep : Int) (fr to : List Nat) (frz : Bool) (cv ev dv : AV) : smallS ⟨id, ep, fr, to, frz, s.cells, s.evs, s.done, cv, ev, dv⟩ := ⟨h.b, h.c, h.e, h.d⟩
theorem Sh.cop_con {H : Heap} {s : Sh} (h : s.ok H) {L : List Blk} {i j m : Nat} (h1 : L[i]? = some (zB (nilB s.cv) 5 (s.cells.map Cell.enc))) (h2 : L[j]? = some (zB (nilB s.ev) 4 (s.evs.map Evn.enc))) (h3 : L[m]? = some (zB (nilB s.dv) 6 (s.done.map Dn.enc))) (id ep : Int) (fr to : List Nat) (frz : Bool) :
    Sh.ok (H.ext L) ⟨id, ep, fr, to, frz, s.cells, s.evs, s.done, zV (nilB s.cv) (H.key i) 5 s.cells.length, zV (nilB s.ev) (H.key j) 4 s.evs.length, zV (nilB s.dv) (H.key m) 6 s.done.length⟩ :=
  ⟨arr_zV h1 (List.length_map ..), arr_zV h2 (List.length_map ..), arr_zV h3 (List.length_map ..), h.dok.ext L, h.cl, h.el, h.dl⟩
theorem idx_one {α : Type} {q : α → Bool} {s : α} (h : q s = true) : idx q [s] 0 = ((0 : Nat) : Int) := by unfold idx; rw [h]; rfl
theorem f21_freeze {s : Sh} (h : isHd G k lv gv [s] gs) {n0 n1 : Int} (n2 n3 n4 : Int) (x0 x1 x2 x3 x4 x5 x6 x7 x8 x9 : AV) (hid : s.id = n0) (he : s.ep = n1) (kind : Int) (hkd : kind = 3) : FnOk Tryz.prog 21 [.ptr k 0, .agg [.int .i64 kind, .int .i64 n0, .int .i64 n1, .int .i64 n2, .int .i64 n3, .int .i64 n4, x0, x1, x2, x3, x4, x5, x6, x7, x8, x9]] G fun r G' => r = .nili ∧ (∃ lv' cv ev dv, isHd G' k lv' gv [⟨s.id, s.ep, s.fr, s.to, true, s.cells, s.evs, s.done, cv, ev, dv⟩] gs) ∧ Nx k G G' := by
  subst hkd
  refine FnOk.of_WW Tryz.func21 rfl C21ok R21ok E0 good_E0 ?_
  have hsm := h.small s (by simp)
  have hok := h.each s (by simp)
  simp only [go_sem, C21]
  refine CL.of (f54_yes (h.ext _) (idx_one (decide_eq_true hid)) rfl he) ?_
  rintro _ _ ⟨rfl, rfl⟩
  simp only [go_sem, Sh.enc, Sh.cop, copB, Heap.key_ext]
  refine CL.of (f52_same (s := ⟨s.id, s.ep, s.fr, s.to, true, s.cells, s.evs, s.done, zV (nilB s.cv) (G.key 1) 5 s.cells.length, zV (nilB s.ev) (G.key 2) 4 s.evs.length, zV (nilB s.dv) (G.key 3) 6 s.done.length⟩) (h.ext _) rfl (by exact Sh.cop_con hok rfl rfl rfl ..) (hsm.con ..)) ?_
  rintro _ G' ⟨rfl, ⟨lv', hhd⟩, hnx⟩
  refine WW.nil ?_
  simp only [go_sem]
  rw [Heap.ext_nil]
  exact ⟨⟨lv', _, _, _, hhd⟩, (Nx.ext h.ok _).trans hnx⟩
theorem f21_thaw {s : Sh} (h : isHd G k lv gv [s] gs) {n0 n1 : Int} (n2 n3 n4 : Int) (x0 x1 x2 x3 x4 x5 x6 x7 x8 x9 : AV) (hid : s.id = n0) (he : s.ep = n1) (hlt : s.ep < 1000000) (hpos : 0 ≤ s.ep) (kind : Int) (hkd : kind = 4) : FnOk Tryz.prog 21 [.ptr k 0, .agg [.int .i64 kind, .int .i64 n0, .int .i64 n1, .int .i64 n2, .int .i64 n3, .int .i64 n4, x0, x1, x2, x3, x4, x5, x6, x7, x8, x9]] G fun r G' => r = .nili ∧ (∃ lv' cv ev dv, isHd G' k lv' gv [⟨s.id, s.ep + 1, s.fr, s.to, false, s.cells, s.evs, s.done, cv, ev, dv⟩] gs) ∧ Nx k G G' := by
  subst hkd
  refine FnOk.of_WW Tryz.func21 rfl C21ok R21ok E0 good_E0 ?_
  have hsm := h.small s (by simp)
  have hok := h.each s (by simp)
  have z1 := eq_false (show ¬ (1000000 : Int) ≤ s.ep by omega)
  have hw : IntKind.i64.wrap (s.ep + 1) = s.ep + 1 := wrap_i64 (by omega) (by omega)
  simp only [go_sem, C21]
  refine CL.of (f54_yes (h.ext _) (idx_one (decide_eq_true hid)) rfl he) ?_
  rintro _ _ ⟨rfl, rfl⟩
  simp only [go_sem, Sh.enc, Sh.cop, copB, Heap.key_ext, z1, hw]
  refine CL.of (f52_same (s := ⟨s.id, s.ep + 1, s.fr, s.to, false, s.cells, s.evs, s.done, zV (nilB s.cv) (G.key 1) 5 s.cells.length, zV (nilB s.ev) (G.key 2) 4 s.evs.length, zV (nilB s.dv) (G.key 3) 6 s.done.length⟩) (h.ext _) rfl (by exact Sh.cop_con hok rfl rfl rfl ..) (hsm.con ..)) ?_
  rintro _ G' ⟨rfl, ⟨lv', hhd⟩, hnx⟩
  refine WW.nil ?_
  simp only [go_sem]
  rw [Heap.ext_nil]
  exact ⟨⟨lv', _, _, _, hhd⟩, (Nx.ext h.ok _).trans hnx⟩
end
end Go.Proofs
/- a node's records done: freezes, thaws, refusals: walked. -/

set_option linter.all false
set_option linter.all false
set_option maxRecDepth 100000
namespace Go.Proofs
open Go Go.Ev
variable {H : Heap}

def zA : List AV := [.int .i64 0, .str [], .int .i64 0, .nils]
theorem f50_ok {kd : Int} (hk : ¬ kd = 6) (key : List Nat) (a b c d : AV) : FnOk Tryz.prog 50 [.agg [.int .i64 kd, .str key, a, b, c, d]] H fun r G => r = .str key ∧ G = H := by
  refine FnOk.drop (R := fun r => r = .str key) ?_ (by rintro v rfl ρ; rw [AV.ren])
  refine FnOk.of_WW Tryz.func50 rfl C50ok R50ok E0 good_E0 ?_
  have z1 := eq_false hk
  simp only [go_sem, C50, z1]
  exact ⟨_, rfl⟩
section
variable {G : Heap} {k : K} {lv gv : AV} {hs : List Sh} {gs : List Gn}
theorem f19_moved (h : isHd G k lv gv hs gs) (kind : Int) {n0 n1 : Int} (n2 n3 n4 : Int) {kd : Int} (hk : ¬ kd = 6) {key : List Nat} (x2 x3 x4 x5 x6 x7 x8 x9 : AV) (hx : idx (findQ key) hs 0 = -1) :
    FnOk Tryz.prog 19 [.ptr k 0, .agg [.int .i64 kind, .int .i64 n0, .int .i64 n1, .int .i64 n2, .int .i64 n3, .int .i64 n4, .int .i64 kd, .str key, x2, x3, x4, x5, x6, x7, x8, x9]] G fun r G' => r = .tup [.agg zA, .iface 51 (.int .i64 17)] ∧ G' = G := by
  refine FnOk.drop (R := fun r => r = .tup [.agg zA, .iface 51 (.int .i64 17)]) ?_ (by rintro v rfl ρ; simp only [zA, AV.ren, AV.rens])
  refine FnOk.of_WW Tryz.func19 rfl C19ok R19ok E0 good_E0 ?_
  simp only [go_sem, C19]
  refine CL.of (f50_ok hk key _ _ _ _) ?_
  rintro _ G' ⟨rfl, hG⟩; rw [hG]; clear hG
  simp only [go_sem]
  refine CL.of (f8_no (h.ext _) key hx) ?_
  rintro _ G' ⟨rfl, hG⟩; rw [hG]; clear hG
  simp only [go_sem, zS, zA]
  exact ⟨_, rfl⟩
theorem isHd.reset (h : isHd G k lv gv hs gs) : isHd (G.set k (.row true 2 [[lv, gv]])) k lv gv hs gs := by
  have h1 := Heap.get_set_here h.ok h.row (.row true 2 [[lv, gv]]) []
  rw [Heap.ext_nil] at h1
  exact ⟨Heap.ok_set h.ok h.row, h1, h.l.set h.row (by decide), gone_set h _, fun s hs => ok_set' h (h.each s hs) (h.small s hs) _, h.small, h.few⟩
theorem evs_cell {j : K} {wr : Bool} {a : Int} {x y z v : AV} {l : List Evn} (h : Arr G 4 v (l.map Evn.enc)) (hj : G.get j = some (.row wr 4 [[.int .i64 a, x, y, z]])) (b : Blk) : Arr (G.set j b) 4 v (l.map Evn.enc) := by
  rcases h with g | ⟨c, off, ex, cap, hv, hc, g⟩
  · exact .inl g
  · refine .inr ⟨c, off, ex, cap, hv, hc, fun hx => ?_⟩
    obtain ⟨r, wr', rows', h1, h2, h3⟩ := g hx
    refine ⟨r, wr', rows', h1, ?_, h3⟩
    rw [Heap.get_set, if_neg fun e => ?_]
    · exact h2
    · subst e
      rw [h2] at hj
      have h5 := Option.some.inj hj
      injection h5 with _ _ h5
      subst h5
      cases l with
      | nil => exact hx rfl
      | cons c l =>
        cases r with
        | zero =>
          have h6 := congrArg (fun z => z[0]?) h3
          simp only [List.map_cons, List.length_cons, List.drop_zero, List.take_succ_cons, List.getElem?_cons_zero, Evn.enc] at h6
          have h7 := Option.some.inj h6
          injection h7 with h7 _
          cases h7
        | succ r => simp at h3
/-- an answer's cell is no part of it -/
theorem isHd.cell (h : isHd G k lv gv hs gs) {j : K} {wr : Bool} {a : Int} {x y z : AV} (hj : G.get j = some (.row wr 4 [[.int .i64 a, x, y, z]])) (b : Blk) : isHd (G.set j b) k lv gv hs gs := by
  refine ⟨Heap.ok_set h.ok hj, ?_, h.l.set hj (by decide), h.g.set hj (by decide), fun s hs => ?_, h.small, h.few⟩
  · rw [Heap.get_set, if_neg fun e => ?_]
    · exact h.row
    · subst e
      have h1 := h.row
      rw [hj] at h1
      cases h1
  · have ho := h.each s hs
    exact ⟨ho.c.set hj (by decide), evs_cell ho.e hj b, ho.d.set hj (by decide), bareL.ok (h.small s hs).b _, ho.cl, ho.el, ho.dl⟩
theorem ne_key {b : Blk} (hok : G.ok) (h : G.get k = some b) (i : Nat) : k ≠ G.key i := by
  rintro rfl
  have := hok _ _ h
  rw [Heap.toNat_key] at this
  omega
theorem Nx.cell {G' : Heap} (h : Nx k G G') (hok : G.ok) (hok' : G'.ok) {i : Nat} {c : Blk} (hc : G'.get (G.key i) = some c) (b : Blk) (L : List Blk) : Nx k G ((G'.set (G.key i) b).ext L) :=
  ⟨fun j d hj hd => Heap.get_set_there hok' (h.keep j d hj hd) (fun e => ne_key hok hd i e.symm) b L,
    fun B hB hl => ext_own (set_own hok' hc (h.own B hB hl) (by obtain ⟨M, rfl⟩ := hB; rw [Heap.toNat_key, Heap.nx_ext, Heap.toNat_key]; omega)) L,
    by rw [Heap.nx_ext, Heap.toNat_key]; exact Nat.le_trans h.le (Nat.le_add_right _ _)⟩
theorem f6_err (h : isHd G k lv gv hs gs) {kind : Int} (hkd : kind = 3 ∨ kind = 4 ∨ kind = 6 ∨ kind = 7) {n0 n1 : Int} (n2 n3 n4 : Int) (x0 x1 x2 x3 x4 x5 x6 x7 x8 x9 : AV) {m : Int} (h21 : ∀ L, FnOk Tryz.prog 21 [.ptr k 0, .agg [.int .i64 kind, .int .i64 n0, .int .i64 n1, .int .i64 n2, .int .i64 n3, .int .i64 n4, x0, x1, x2, x3, x4, x5, x6, x7, x8, x9]] (G.ext L) fun r G' => r = .iface 51 (.int .i64 m) ∧ G' = G.ext L) :
    FnOk Tryz.prog 6 [.ptr k 0, .agg [.int .i64 kind, .int .i64 n0, .int .i64 n1, .int .i64 n2, .int .i64 n3, .int .i64 n4, x0, x1, x2, x3, x4, x5, x6, x7, x8, x9]] G fun r G' => r = .tup [.agg zA, .iface 51 (.int .i64 m)] ∧ isHd G' k lv gv hs gs ∧ Nx k G G' := by
  refine FnOk.of_WW Tryz.func6 rfl C6ok R6ok E0 good_E0 ?_
  have hk : ∀ L, (G.ext L).get k = _ := fun L => Heap.get_ext_old h.ok h.row L
  have hset := fun b (l : List Blk) (α : Type) (c' : Heap → α) => Heap.setC_here h.ok h.row b l c'
  rcases hkd with rfl | rfl | rfl | rfl
  all_goals
    simp only [go_sem, C6, hk]
    refine CL.of (h21 _) ?_
    rintro _ G' ⟨rfl, hG⟩; rw [hG]; clear hG
    simp only [go_sem]
    refine CL.of (f22_some (x := .int .i64 0) (get_lit rfl) m) ?_
    rintro _ G' ⟨rfl, hG⟩
    rw [hG, Heap.set_ext_key _ _ _ _ (by exact Nat.lt_of_sub_eq_succ rfl)]
    clear hG
    simp only [go_sem, hk, hset, zA]
    exact ⟨h.reset.ext _, Nx.set h.ok h.row _ _⟩
theorem f6_moved (h : isHd G k lv gv hs gs) {n0 n1 : Int} (n2 n3 n4 : Int) {kd : Int} (hkd : ¬ kd = 6) {key : List Nat} (x2 x3 x4 x5 x6 x7 x8 x9 : AV) (hx : idx (findQ key) hs 0 = -1) :
    FnOk Tryz.prog 6 [.ptr k 0, .agg [.int .i64 2, .int .i64 n0, .int .i64 n1, .int .i64 n2, .int .i64 n3, .int .i64 n4, .int .i64 kd, .str key, x2, x3, x4, x5, x6, x7, x8, x9]] G fun r G' => r = .tup [.agg zA, .iface 51 (.int .i64 17)] ∧ isHd G' k lv gv hs gs ∧ Nx k G G' := by
  refine FnOk.of_WW Tryz.func6 rfl C6ok R6ok E0 good_E0 ?_
  have hk : ∀ L, (G.ext L).get k = _ := fun L => Heap.get_ext_old h.ok h.row L
  have hset := fun b (l : List Blk) (α : Type) (c' : Heap → α) => Heap.setC_here h.ok h.row b l c'
  simp only [go_sem, C6, hk]
  refine CL.of (f19_moved (h.ext _) 2 n2 n3 n4 hkd x2 x3 x4 x5 x6 x7 x8 x9 hx) ?_
  rintro _ G' ⟨rfl, hG⟩; rw [hG]; clear hG
  simp only [go_sem, zA]
  refine CL.of (f22_some (x := .int .i64 0) (get_lit rfl) 17) ?_
  rintro _ G' ⟨rfl, hG⟩
  rw [hG, Heap.set_ext_key _ _ _ _ (by exact Nat.lt_of_sub_eq_succ rfl)]
  clear hG
  simp only [go_sem, hk, hset, zA]
  exact ⟨h.reset.ext _, Nx.set h.ok h.row _ _⟩
/-- what is done without an error -/
theorem f6_fine (h : isHd G k lv gv hs gs) {kind : Int} (hkd : kind = 3 ∨ kind = 4 ∨ kind = 6 ∨ kind = 7) {n0 n1 : Int} (n2 n3 n4 : Int) (x0 x1 x2 x3 x4 x5 x6 x7 x8 x9 : AV) {hs' : List Sh → Prop} {gs' : List Gn}
    (h21 : ∀ L, FnOk Tryz.prog 21 [.ptr k 0, .agg [.int .i64 kind, .int .i64 n0, .int .i64 n1, .int .i64 n2, .int .i64 n3, .int .i64 n4, x0, x1, x2, x3, x4, x5, x6, x7, x8, x9]] (G.ext L) fun r G' => r = .nili ∧ (∃ lv' gv' l, hs' l ∧ isHd G' k lv' gv' l gs') ∧ Nx k (G.ext L) G') :
    FnOk Tryz.prog 6 [.ptr k 0, .agg [.int .i64 kind, .int .i64 n0, .int .i64 n1, .int .i64 n2, .int .i64 n3, .int .i64 n4, x0, x1, x2, x3, x4, x5, x6, x7, x8, x9]] G fun r G' => r = .tup [.agg zA, .nili] ∧ (∃ lv' gv' l, hs' l ∧ isHd G' k lv' gv' l gs') ∧ Nx k G G' := by
  refine FnOk.of_WW Tryz.func6 rfl C6ok R6ok E0 good_E0 ?_
  have hk : ∀ L, (G.ext L).get k = _ := fun L => Heap.get_ext_old h.ok h.row L
  rcases hkd with rfl | rfl | rfl | rfl
  all_goals
    simp only [go_sem, C6, hk]
    refine CL.of (h21 _) ?_
    rintro _ G' ⟨rfl, ⟨lv', gv', l, hl, hhd⟩, hnx⟩
    have e1 := hnx.keep (G.key 1) _ (ne_key h.ok h.row 1) (get_lit rfl)
    have e3 := hnx.keep (G.key 3) _ (ne_key h.ok h.row 3) (get_lit rfl)
    have g1 := fun L => Heap.get_ext_old hhd.ok e1 L
    have g3 := fun L => Heap.get_ext_old hhd.ok e3 L
    have s1 := fun b (l : List Blk) (α : Type) (c' : Heap → α) => Heap.setC_here hhd.ok e1 b l c'
    have k1 := fun b (l : List Blk) => Heap.get_set_here hhd.ok e1 b l
    refine WW.nil ?_
    simp only [go_sem]
    refine CL.of (f22_none _) ?_
    rintro _ G' ⟨rfl, hG⟩; rw [hG]; clear hG
    simp only [go_sem]
    refine CL.of (f23_ok none 10) ?_
    rintro _ G' ⟨rfl, hG⟩; rw [hG]; clear hG
    simp only [go_sem, g1, g3, s1, k1]
    exact ⟨rfl, ⟨lv', gv', l, hl, (hhd.cell e1 _).ext _⟩, ((Nx.ext h.ok _).trans hnx).cell h.ok hhd.ok e1 _ _⟩
end
end Go.Proofs
/- what was given away, in order; the first record: walked. -/

set_option linter.all false
set_option linter.all false
set_option maxRecDepth 100000
namespace Go.Proofs
open Go Go.Ev
variable {H : Heap}

theorem f129_one {v : AV} {n : Nat} (hn : n ≤ 1) (g : AV) : FnOk Tryz.prog 129 [v, .int .i64 0, .int .i64 n, g] H fun r G => r = .tup [] ∧ G = H := by
  refine FnOk.drop (R := fun r => r = .tup []) ?_ (by rintro v rfl ρ; simp only [AV.ren, AV.rens])
  refine FnOk.of_WW Tryz.func129 rfl C129ok R129ok E0 good_E0 ?_
  have hw01 : IntKind.i64.wrap (0 + 1) = 1 := rfl
  have hc : ¬ (1 : Int) < (n : Int) := by omega
  simp only [go_sem, C129, hw01]
  refine LL.st good_E0 (fun _ : Nat => 0) (fun _ => True) (fun _ => [((.i .z), .int .i64 n), ((.i (.o (.o .z))), .int .i64 1)]) (fun _ => []) ?_ 0 (σ := []) (Wk.of rfl (by decide) (by simp only [go_sem]; first | done | rfl | trace_state) (by simp only [go_sem])) trivial
  rintro _ _
  simp only [go_sem, C129L1, hc]
  exact ⟨_, rfl⟩
theorem f138_ok {n : Nat} (hn : n ≤ 1) : FnOk Tryz.prog 138 [.int .u64 n] H fun r G => r = .int .i64 n ∧ G = H := by
  refine FnOk.drop (R := fun r => r = .int .i64 n) ?_ (by rintro v rfl ρ; rw [AV.ren])
  refine FnOk.of_WW Tryz.func138 rfl C138ok R138ok E0 good_E0 ?_
  have h : n = 0 ∨ n = 1 := by omega
  have hw0 : IntKind.i64.wrap (0 + 0) = 0 := rfl
  have hw1 : IntKind.i64.wrap (0 + 1) = 1 := rfl
  have u0 : IntKind.u8.wrap 0 = ((0 : Nat) : Int) := rfl
  have u1 : IntKind.u8.wrap 1 = ((1 : Nat) : Int) := rfl
  have i0 : IntKind.i64.wrap 0 = 0 := rfl
  have i1 : IntKind.i64.wrap 1 = 1 := rfl
  rcases h with rfl | rfl
  · simp only [go_sem, C138, hw0, hw1, u0, u1, i0, i1, Int.ofNat_zero, Int.natCast_zero, Int.ofNat_one, Int.natCast_one]
    exact ⟨_, rfl⟩
  · simp only [go_sem, C138, hw0, hw1, u0, u1, i0, i1, Int.ofNat_zero, Int.natCast_zero, Int.ofNat_one, Int.natCast_one]
    exact ⟨_, rfl⟩
theorem f90_ok {n : Nat} (hn : n ≤ 1) : FnOk Tryz.prog 90 [.int .u64 n] H fun r G => r = .int .i64 n ∧ G = H := by
  refine FnOk.drop (R := fun r => r = .int .i64 n) ?_ (by rintro v rfl ρ; rw [AV.ren])
  refine FnOk.of_WW Tryz.func90 rfl C90ok R90ok E0 good_E0 ?_
  simp only [go_sem, C90]
  refine CL.of (f138_ok hn) ?_
  rintro _ G' ⟨rfl, hG⟩; rw [hG]; clear hG
  simp only [go_sem]
  exact ⟨_, rfl⟩
theorem f89_ok {v : AV} (hv : ∀ top σ, AV.ren (rho H top σ) v = v) {n : Nat} (hn : n ≤ 1) (f : FuncId) : FnOk Tryz.prog 89 [v, .int .i64 0, .int .i64 n, .int .i64 n, .fn (.func f) [] []] H fun r G => r = .tup [] ∧ G = H := by
  refine FnOk.drop (R := fun r => r = .tup []) ?_ (by rintro v rfl ρ; simp only [AV.ren, AV.rens])
  refine FnOk.of_WW Tryz.func89 rfl C89ok R89ok E0 good_E0 ?_
  have hw : IntKind.i64.wrap ((n : Int) - 0) = n := by rw [Int.sub_zero]; exact wrap_i64 (by omega) (by omega)
  have hc : (n : Int) ≤ 12 := by omega
  simp only [go_sem, C89]
  refine LL.st good_E0 (fun _ : Nat => 0) (fun _ => True) (fun _ => [(.z, v), ((.o .z), .int .i64 0), ((.i .z), .int .i64 n), ((.i (.o .z)), .fn (.func f) [] [])]) (fun _ => []) ?_ 0 (σ := []) (Wk.of rfl (by decide) (by simp only [go_sem, hv]; first | done | rfl | trace_state) (by simp only [go_sem])) trivial
  rintro _ _
  simp only [go_sem, C89L0, hw, hc]
  refine CL.of (f129_one hn _) ?_
  rintro _ G' ⟨rfl, hG⟩; rw [hG]; clear hG
  simp only [go_sem]
  exact ⟨_, rfl⟩
theorem f47_ok {v : AV} {gs : List Gn} (hA : Arr H 2 v (gs.map Gn.enc)) (hn : gs.length ≤ 1) (f : FuncId) : FnOk Tryz.prog 47 [v, .fn (.func f) [] []] H fun r G => r = .tup [] ∧ G = H := by
  refine FnOk.drop (R := fun r => r = .tup []) ?_ (by rintro v rfl ρ; simp only [AV.ren, AV.rens])
  refine FnOk.of_WW Tryz.func47 rfl C47ok R47ok E0 good_E0 ?_
  have hlen := fun G => hA.len G
  simp only [List.length_map] at hlen
  have hw : IntKind.u64.wrap (gs.length : Int) = gs.length := by
    have h : gs.length = 0 ∨ gs.length = 1 := by omega
    rcases h with h | h <;> rw [h] <;> rfl
  simp only [go_sem, C47, hlen, hw]
  refine CL.of (f90_ok hn) ?_
  rintro _ G' ⟨rfl, hG⟩; rw [hG]; clear hG
  simp only [go_sem]
  refine CL.of (f89_ok (fun top σ => (hA.ext _).ren top σ) hn f) ?_
  rintro _ G' ⟨rfl, hG⟩; rw [hG]; clear hG
  simp only [go_sem]
  exact ⟨_, rfl⟩
/-- a shard with nothing in it -/
def nS (id ep : Int) (fr to : List Nat) (z : Bool) : Sh := ⟨id, ep, fr, to, z, [], [], [], .nils, .nils, .nils⟩
theorem nS_ok (H : Heap) (id ep : Int) (fr to : List Nat) (z : Bool) : (nS id ep fr to z).ok H := ⟨.inl ⟨rfl, rfl⟩, .inl ⟨rfl, rfl⟩, .inl ⟨rfl, rfl⟩, fun d hd => absurd hd List.not_mem_nil, Nat.lt_of_sub_eq_succ rfl, Nat.lt_of_sub_eq_succ rfl, Nat.lt_of_sub_eq_succ rfl⟩
theorem nS_small (id ep : Int) (fr to : List Nat) (z : Bool) : smallS (nS id ep fr to z) := ⟨fun d hd => absurd hd List.not_mem_nil, Nat.lt_of_sub_eq_succ rfl, Nat.lt_of_sub_eq_succ rfl, Nat.lt_of_sub_eq_succ rfl⟩
theorem f41_n (id ep : Int) (fr to : List Nat) (z : Bool) : FnOk Tryz.prog 41 [.agg (nS id ep fr to z).enc] H fun r G => r = .agg (nS id ep fr to z).enc ∧ G = H := by
  refine FnOk.drop (R := fun r => r = .agg (nS id ep fr to z).enc) ?_ (by rintro v rfl ρ; simp only [nS, Sh.enc, AV.ren, AV.rens])
  refine (f41_ok (nS_ok H id ep fr to z) (nS_small ..)).mono ?_
  rintro r G ⟨rfl, rfl⟩
  exact ⟨rfl, _, rfl⟩
noncomputable def ECp (f : FuncId) (args : List AV) (H : Heap) : RC :=
  match f with
  | 41 => match args with | [.agg [.int .i64 id, .int .i64 ep, .str fr, .str to, .bool z, .nils, .nils, .nils]] => .ok (.agg [.int .i64 id, .int .i64 ep, .str fr, .str to, .bool z, .nils, .nils, .nils]) H | _ => .fail
  | _ => .fail
theorem good_ECp : Ev.Good Tryz.prog ECp := by
  intro f args H r G he φ w args' ha hw
  refine (?_ : FnOk Tryz.prog f args H fun v' G' => v' = r ∧ G' = G).one φ w args' ha hw
  unfold ECp at he
  split at he
  · split at he
    · cases he; exact f41_n _ _ _ _ _
    · cases he
  · cases he
theorem ec41 (id ep : Int) (fr to : List Nat) (z : Bool) (H : Heap) : ECp 41 [.agg [.int .i64 id, .int .i64 ep, .str fr, .str to, .bool z, .nils, .nils, .nils]] H = .ok (.agg [.int .i64 id, .int .i64 ep, .str fr, .str to, .bool z, .nils, .nils, .nils]) H := rfl
theorem clo42 : CloFn Tryz.prog 42 2 16 [.int .i64 0, .int .i64 0] := ⟨⟨Tryz.f42, Tryz.func42, by kernel_rfl, by kernel_rfl⟩, rfl, by decide⟩
theorem f44_ok {s : Sh} (h : s.ok H) : FnOk Tryz.prog 44 [.agg s.enc] H fun r G => r = .bool (decide (¬ isSh s)) ∧ G = H := by
  refine FnOk.drop (R := fun r => r = .bool (decide (¬ isSh s))) ?_ (by rintro v rfl ρ; rw [AV.ren])
  refine FnOk.of_WW Tryz.func44 rfl C44ok R44ok E0 good_E0 ?_
  simp only [go_sem, C44, Sh.enc]
  refine CL.bool (f45_ok (h.ext _)) (fun g => ?_) (fun g => ?_)
  · simp only [go_sem]
    exact ⟨bool_f fun h => h g, _, rfl⟩
  · simp only [go_sem]
    exact ⟨bool_t g, _, rfl⟩
theorem f43_one {s : Sh} (h : s.ok H) (hs : isSh s) {v : AV} (hA : Arr H 8 v [s.enc]) : FnOk Tryz.prog 43 [v, .fn (.func 44) [] []] H fun r G => r = .bool false ∧ G = H := by
  refine FnOk.drop (R := fun r => r = .bool false) ?_ (by rintro v rfl ρ; rw [AV.ren])
  refine FnOk.of_WW Tryz.func43 rfl C43ok R43ok E0 good_E0 ?_
  simp only [go_sem, C43]
  have h64 := f64_ok (l := [s]) (caps := []) (q := fun s => decide (¬ isSh s)) hA (by show 1 ≤ 100000; decide) (fun _ _ => call44 ..) (fun _ _ => by simp only [AV.ren, AV.rens]) (fun x hx L => by rw [List.mem_singleton.1 hx]; exact f44_ok (h.ext L))
  have hx : idx (fun s => decide (¬ isSh s)) [s] 0 = -1 := by unfold idx; rw [decide_eq_false (fun g => g hs), if_neg Bool.false_ne_true]; rfl
  rw [hx, ← Heap.ext_nil H] at h64
  refine CL.of h64 ?_
  rintro _ G' ⟨rfl, hG⟩; rw [hG]; clear hG
  simp only [go_sem]
  exact ⟨_, rfl⟩
end Go.Proofs
/- the record of all there is, of one shard: walked. -/

set_option linter.all false
set_option linter.all false
set_option maxRecDepth 100000
namespace Go.Proofs
open Go Go.Ev
variable {H : Heap}

section
variable {G : Heap} {k : K}
theorem f18_base (h : isHd G k .nils .nils [] []) {v : AV} {id ep : Int} {fr to : List Nat} {z : Bool} (hA : Arr G 8 v [(nS id ep fr to z).enc]) (hs : isSh (nS id ep fr to z)) :
    FnOk Tryz.prog 18 [.ptr k 0, .agg [.int .i64 1, .int .i64 0, .int .i64 0, .int .i64 0, .int .i64 0, .int .i64 0, .int .i64 0, .str [], .str [], .str [], .int .i64 0, .nils, .str [], .str [], v, .nils]] G fun r G' => r = .nili ∧ (∃ lv', isHd G' k lv' .nils [nS id ep fr to z] []) ∧ Nx k G G' := by
  refine FnOk.of_WW Tryz.func18 rfl C18ok R18ok ECp good_ECp ?_
  have hk : ∀ L, (G.ext L).get k = _ := fun L => Heap.get_ext_old h.ok h.row L
  have hset := fun b (l : List Blk) (α : Type) (c' : Heap → α) => Heap.setC_here h.ok h.row b l c'
  have hset2 := fun b d (l : List Blk) (α : Type) (c' : Heap → α) => Heap.setC_set_here h.ok h.row b d l c'
  have hk2 := fun b (l : List Blk) => Heap.get_set_here h.ok h.row b l
  have hlen := fun G => hA.len G
  simp only [go_sem, C18]
  refine CL.of (f43_one (nS_ok _ id ep fr to z) hs (hA.ext _)) ?_
  rintro _ G' ⟨rfl, hG⟩; rw [hG]; clear hG
  simp only [go_sem]
  refine CL.of (clone_nil clo42) ?_
  rintro _ G' ⟨rfl, hG⟩; rw [hG]; clear hG
  simp only [go_sem, hk, hset, hset2, hk2, hlen]
  obtain ⟨kk, r, ex', cap', wr, rows, hv, hrho, hgo, hrow⟩ := hA.at h.ok (j := 0) (Nat.zero_lt_succ _)
  have hg0 := hgo []
  rw [Heap.ext_nil] at hg0
  have hne : k ≠ kk := by
    rintro rfl
    have := h.row
    rw [hg0] at this
    cases this
  have hw01 : IntKind.i64.wrap (0 + 1) = 1 := rfl
  have hrow : rows[r]? = some [.int .i64 id, .int .i64 ep, .str fr, .str to, .bool z, .nils, .nils, .nils] := hrow
  have hv : v = .slice kk (r * 8) 1 8 ex' cap' := hv
  refine LL.sth good_ECp (fun i : Nat => 1 - i) (fun i M => (i = 0 ∧ isHd M k .nils .nils [] [] ∧ Nx k G M) ∨ (i = 1 ∧ (∃ lv', isHd M k lv' .nils [nS id ep fr to z] []) ∧ Nx k G M))
    (fun i => [(.z, .ptr k 0), ((.o (.i (.i (.o .z)))), v), ((.i (.i (.i (.o .z)))), .int .i64 1), ((.o (.o (.o (.i .z)))), .int .i64 i)]) ?_ 0 (.inl ⟨rfl, h.reset.ext _, Nx.set h.ok h.row _ _⟩) (Slots.all (by simp only [go_sem]; first | done | rfl | trace_state))
  rintro i M (⟨rfl, hM, hnx⟩ | ⟨rfl, ⟨lv', hM⟩, hnx⟩)
  · have hkM : ∀ L, (M.ext L).get k = _ := fun L => Heap.get_ext_old hM.ok hM.row L
    have hgM : ∀ L, (M.ext L).get kk = _ := fun L => Heap.get_ext_old hM.ok (hnx.keep kk _ hne hg0) L
    have hsetM := fun b (l : List Blk) (α : Type) (c' : Heap → α) => Heap.setC_here hM.ok hM.row b l c'
    simp only [go_sem, C18L0, hv, hkM, hgM, hrow, ec41, hsetM, hw01]
    refine ⟨1, by show 1 - 1 < 1 - 0; decide, .inr ⟨rfl, ⟨_, isHd.put (hs' := [nS id ep fr to z]) hM (j := 2) rfl (fun x hx => by rw [List.mem_singleton.1 hx]; exact nS_ok ..) (fun x hx => by rw [List.mem_singleton.1 hx]; exact nS_small ..) (by show 1 ≤ 8; decide) 1 false⟩, hnx.trans (Nx.set hM.ok hM.row _ _)⟩, Slots.all (by simp only [go_sem, hv]; first | done | rfl | trace_state)⟩
  · have hkM : ∀ L, (M.ext L).get k = _ := fun L => Heap.get_ext_old hM.ok hM.row L
    simp only [go_sem, C18L0, hv, hkM]
    refine CL.of (f46_ok (hM.ext _) (Nat.le_refl 1)) ?_
    rintro _ G' ⟨rfl, hG⟩; rw [hG]; clear hG
    simp only [go_sem, hkM]
    refine CL.of (f47_ok (gs := []) (.inl ⟨rfl, rfl⟩) (Nat.zero_le _) 48) ?_
    rintro _ G' ⟨rfl, hG⟩; rw [hG]; clear hG
    simp only [go_sem]
    exact ⟨⟨_, hM.ext _⟩, hnx.trans (Nx.ext hM.ok _)⟩
end
end Go.Proofs
/- a node with one shard; records of a shard's number and epoch: walked. -/

set_option linter.all false
set_option linter.all false
set_option maxRecDepth 100000
namespace Go.Proofs
open Go Go.Ev
variable {H : Heap}

section
variable {G : Heap} {k : K}
theorem f6_base (h : isHd G k .nils .nils [] []) {v : AV} {id ep : Int} {fr to : List Nat} {z : Bool} (hA : Arr G 8 v [(nS id ep fr to z).enc]) (hs : isSh (nS id ep fr to z)) :
    FnOk Tryz.prog 6 [.ptr k 0, .agg [.int .i64 1, .int .i64 0, .int .i64 0, .int .i64 0, .int .i64 0, .int .i64 0, .int .i64 0, .str [], .str [], .str [], .int .i64 0, .nils, .str [], .str [], v, .nils]] G fun r G' => r = .tup [.agg zA, .nili] ∧ (∃ lv', isHd G' k lv' .nils [nS id ep fr to z] []) ∧ Nx k G G' := by
  refine FnOk.of_WW Tryz.func6 rfl C6ok R6ok E0 good_E0 ?_
  have hk : ∀ L, (G.ext L).get k = _ := fun L => Heap.get_ext_old h.ok h.row L
  simp only [go_sem, C6, hk]
  refine CL.of (f18_base (h.ext _) (hA.ext _) hs) ?_
  rintro _ G' ⟨rfl, ⟨lv', hhd⟩, hnx⟩
  have e1 := hnx.keep (G.key 1) _ (ne_key h.ok h.row 1) (get_lit rfl)
  have e3 := hnx.keep (G.key 3) _ (ne_key h.ok h.row 3) (get_lit rfl)
  have g1 := fun L => Heap.get_ext_old hhd.ok e1 L
  have g3 := fun L => Heap.get_ext_old hhd.ok e3 L
  have s1 := fun b (l : List Blk) (α : Type) (c' : Heap → α) => Heap.setC_here hhd.ok e1 b l c'
  have k1 := fun b (l : List Blk) => Heap.get_set_here hhd.ok e1 b l
  refine WW.nil ?_
  simp only [go_sem]
  refine CL.of (f22_none _) ?_
  rintro _ G' ⟨rfl, hG⟩; rw [hG]; clear hG
  simp only [go_sem]
  refine CL.of (f23_ok none 10) ?_
  rintro _ G' ⟨rfl, hG⟩; rw [hG]; clear hG
  simp only [go_sem, g1, g3, s1, k1]
  exact ⟨rfl, ⟨lv', (hhd.cell e1 _).ext _⟩, ((Nx.ext h.ok _).trans hnx).cell h.ok hhd.ok e1 _ _⟩
end
/-- the record of a number and an epoch -/
def rcE (kind a b c d e : Int) : List AV := [.int .i64 kind, .int .i64 a, .int .i64 b, .int .i64 c, .int .i64 d, .int .i64 e, .int .i64 0, .str [], .str [], .str [], .int .i64 0, .nils, .str [], .str [], .nils, .nils]
theorem readC_five {β : Type} (f : β) (a b c d e : AV) (k : List AV → β) : readC f 1 [[a], [b], [c], [d], [e]] 0 5 k = k [a, b, c, d, e] := rfl
theorem f7_ok (kind a b c d e : Int) : FnOk Tryz.prog 7 [.int .i64 kind, .agg [.int .i64 a, .int .i64 b, .int .i64 c, .int .i64 d, .int .i64 e]] H fun r G => r = .agg (rcE kind a b c d e) ∧ G = H := by
  refine FnOk.drop (R := fun r => r = .agg (rcE kind a b c d e)) ?_ (by rintro v rfl ρ; simp only [rcE, AV.ren, AV.rens])
  refine FnOk.of_WW Tryz.func7 rfl C7ok R7ok E0 good_E0 ?_
  simp only [go_sem, C7, rcE, readC_five]
  exact ⟨_, rfl⟩
theorem f11_ok : FnOk Tryz.prog 11 [] H fun r G => r = .ptr (H.key 0) 0 ∧ G = H.ext [.row true 2 [[.nils, .nils]]] := by
  refine FnOk.of_WW Tryz.func11 rfl C11ok R11ok E0 good_E0 ?_
  simp only [go_sem, C11]
theorem shOne (n : Int) (h1 : 1 ≤ n) (h2 : n ≤ 1000000) : isSh (nS 1 n [] [] false) := ⟨⟨by show (1 : Int) ≤ 1; decide, by show (1 : Int) ≤ 1000000000000; decide, h1, h2⟩, k_span, fun c hc => absurd hc List.not_mem_nil, by show (0 : Int) ≤ 24; decide, ⟨fun j h => absurd h (Nat.not_lt_zero _), fun e he => absurd he List.not_mem_nil, fun c hc => absurd hc List.not_mem_nil⟩, fun j h => absurd h (Nat.not_lt_zero _)⟩
theorem newHd (hok : H.ok) (M : List Blk) : isHd (H.ext (.row true 2 [[.nils, .nils]] :: M)) (H.key 0) .nils .nils [] [] :=
  ⟨Heap.ok_ext hok _, get_lit rfl, .inl ⟨rfl, rfl⟩, .inl ⟨rfl, rfl⟩, fun s hs => absurd hs List.not_mem_nil, fun s hs => absurd hs List.not_mem_nil, Nat.zero_le _, Nat.zero_le _⟩
theorem f5_ok : FnOk Tryz.prog 5 [] H fun r G => r = .ptr (H.key 0) 0 ∧ (∃ lv', isHd G (H.key 0) lv' .nils [nS 1 3 [] [] false] []) ∧ ∃ L, G = H.ext L := by
  refine FnOk.assume fun hok => ?_
  refine FnOk.of_WW Tryz.func5 rfl C5ok R5ok E0 good_E0 ?_
  simp only [go_sem, C5]
  refine CL.of f11_ok ?_
  rintro _ G' ⟨rfl, hG⟩
  rw [hG]
  clear hG
  simp only [go_sem, Heap.key_ext]
  have hA : ∀ b0 b1, Arr (H.ext [b0, .row true 8 [(nS 1 3 [] [] false).enc], b1]) 8 (.slice (H.key 1) 0 1 8 true 1) [(nS 1 3 [] [] false).enc] := fun b0 b1 => .inr ⟨H.key 1, 0, true, 1, rfl, Heap.ok_ext hok _ _ _ (get_lit rfl), fun _ => ⟨0, true, _, rfl, get_lit rfl, rfl⟩⟩
  have hA : ∀ b0, Arr (H.ext [b0, .row true 8 [(nS 1 3 [] [] false).enc]]) 8 (.slice (H.key 1) 0 1 8 true 1) [(nS 1 3 [] [] false).enc] := fun b0 => .inr ⟨H.key 1, 0, true, 1, rfl, Heap.ok_ext hok _ _ _ (get_lit rfl), fun _ => ⟨0, true, _, rfl, get_lit rfl, rfl⟩⟩
  refine CL.of (f6_base (newHd hok _) (hA _) (shOne 3 (by decide) (by decide))) ?_
  rintro _ G' ⟨rfl, ⟨lv', hhd⟩, hnx⟩
  refine WW.nil ?_
  simp only [go_sem]
  rw [Heap.ext_nil]
  exact ⟨⟨lv', hhd⟩, hnx.own H ⟨_, rfl⟩ (by rw [Heap.toNat_key]; exact Nat.le_add_right ..)⟩
end Go.Proofs
/- a node of one shard that has nothing in it: what freezes, thaws, drops, requests do. -/

set_option linter.all false
set_option linter.all false
set_option maxRecDepth 100000
namespace Go.Proofs
open Go Go.Ev
variable {H : Heap}

/-- the shard -/
def oS (e : Int) (z : Bool) (cv ev dv : AV) : Sh := ⟨1, e, [], [], z, [], [], [], cv, ev, dv⟩
/-- a node with that shard alone -/
def Hd1 (G : Heap) (k : K) (e : Int) (z : Bool) : Prop := ∃ lv gv cv ev dv, isHd G k lv gv [oS e z cv ev dv] []
theorem Hd1.ok {G : Heap} {k : K} {e : Int} {z : Bool} (h : Hd1 G k e z) : G.ok := by obtain ⟨_, _, _, _, _, h⟩ := h; exact h.ok
theorem Hd1.ext {G : Heap} {k : K} {e : Int} {z : Bool} (h : Hd1 G k e z) (L : List Blk) : Hd1 (G.ext L) k e z := by obtain ⟨a, b, c, d, f, h⟩ := h; exact ⟨a, b, c, d, f, h.ext L⟩
section
variable {G : Heap} {k : K} {e : Int}
theorem do_freeze (h : Hd1 G k e false) : FnOk Tryz.prog 6 [.ptr k 0, .agg (rcE 3 1 e 0 0 0)] G fun r G' => r = .tup [.agg zA, .nili] ∧ Hd1 G' k e true ∧ Nx k G G' := by
  obtain ⟨lv, gv, cv, ev, dv, h⟩ := h
  refine (f6_fine h (kind := 3) (.inl rfl) 0 0 0 (.int .i64 0) (.str []) (.str []) (.str []) (.int .i64 0) .nils (.str []) (.str []) .nils .nils (n0 := 1) (n1 := e) (gs' := []) (hs' := fun l => ∃ cv ev dv, l = [oS e true cv ev dv]) fun L => (f21_freeze (h.ext L) 0 0 0 _ _ _ _ _ _ _ _ _ _ rfl rfl 3 rfl).mono ?_).mono ?_
  · rintro r G' ⟨rfl, ⟨lv', cv', ev', dv', hh⟩, hn⟩
    exact ⟨rfl, ⟨lv', gv, _, ⟨cv', ev', dv', rfl⟩, hh⟩, hn⟩
  · rintro r G' ⟨rfl, ⟨lv', gv', l, ⟨cv', ev', dv', rfl⟩, hh⟩, hn⟩
    exact ⟨rfl, ⟨lv', gv', cv', ev', dv', hh⟩, hn⟩
theorem do_thaw (h : Hd1 G k e true) (h0 : 0 ≤ e) (h1 : e < 1000000) : FnOk Tryz.prog 6 [.ptr k 0, .agg (rcE 4 1 e 0 0 0)] G fun r G' => r = .tup [.agg zA, .nili] ∧ Hd1 G' k (e + 1) false ∧ Nx k G G' := by
  obtain ⟨lv, gv, cv, ev, dv, h⟩ := h
  refine (f6_fine h (kind := 4) (.inr (.inl rfl)) 0 0 0 (.int .i64 0) (.str []) (.str []) (.str []) (.int .i64 0) .nils (.str []) (.str []) .nils .nils (n0 := 1) (n1 := e) (gs' := []) (hs' := fun l => ∃ cv ev dv, l = [oS (e + 1) false cv ev dv]) fun L => (f21_thaw (h.ext L) 0 0 0 _ _ _ _ _ _ _ _ _ _ rfl rfl h1 h0 4 rfl).mono ?_).mono ?_
  · rintro r G' ⟨rfl, ⟨lv', cv', ev', dv', hh⟩, hn⟩
    exact ⟨rfl, ⟨lv', gv, _, ⟨cv', ev', dv', rfl⟩, hh⟩, hn⟩
  · rintro r G' ⟨rfl, ⟨lv', gv', l, ⟨cv', ev', dv', rfl⟩, hh⟩, hn⟩
    exact ⟨rfl, ⟨lv', gv', cv', ev', dv', hh⟩, hn⟩
theorem idx1 {z : Bool} {cv ev dv : AV} : idx (fun s => decide (s.id = 1)) [oS e z cv ev dv] 0 = ((0 : Nat) : Int) := idx_one (decide_eq_true rfl)
theorem do_late {z : Bool} (h : Hd1 G k e z) {m : Int} (hm : ¬ e = m) (kind : Int) (hkd : kind = 3 ∨ kind = 4 ∨ kind = 6 ∨ kind = 7) : FnOk Tryz.prog 6 [.ptr k 0, .agg (rcE kind 1 m 0 0 0)] G fun r G' => r = .tup [.agg zA, .iface 51 (.int .i64 14)] ∧ Hd1 G' k e z ∧ Nx k G G' := by
  obtain ⟨lv, gv, cv, ev, dv, h⟩ := h
  refine (f6_err h hkd 0 0 0 (.int .i64 0) (.str []) (.str []) (.str []) (.int .i64 0) .nils (.str []) (.str []) .nils .nils (n0 := 1) (n1 := m) (m := 14) fun L => f21_late (h.ext L) kind 0 0 0 _ _ _ _ _ _ _ _ _ _ idx1 rfl hm).mono ?_
  rintro r G' ⟨rfl, hh, hn⟩
  exact ⟨rfl, ⟨lv, gv, cv, ev, dv, hh⟩, hn⟩
theorem do_drop (h : Hd1 G k e false) : FnOk Tryz.prog 6 [.ptr k 0, .agg (rcE 6 1 e 0 0 0)] G fun r G' => r = .tup [.agg zA, .iface 51 (.int .i64 14)] ∧ Hd1 G' k e false ∧ Nx k G G' := by
  obtain ⟨lv, gv, cv, ev, dv, h⟩ := h
  refine (f6_err h (kind := 6) (.inr (.inr (.inl rfl))) 0 0 0 (.int .i64 0) (.str []) (.str []) (.str []) (.int .i64 0) .nils (.str []) (.str []) .nils .nils (n0 := 1) (n1 := e) (m := 14) fun L => f21_drop (h.ext L) 0 0 0 _ _ _ _ _ _ _ _ _ _ idx1 rfl rfl rfl 6 rfl).mono ?_
  rintro r G' ⟨rfl, hh, hn⟩
  exact ⟨rfl, ⟨lv, gv, cv, ev, dv, hh⟩, hn⟩
theorem do_moved (h : Hd1 G k e true) (key : List Nat) (n : Int) : FnOk Tryz.prog 6 [.ptr k 0, .agg [.int .i64 2, .int .i64 0, .int .i64 n, .int .i64 0, .int .i64 0, .int .i64 0, .int .i64 2, .str key, .str [], .str [118], .int .i64 0, .nils, .str [], .str [], .nils, .nils]] G
    fun r G' => r = .tup [.agg zA, .iface 51 (.int .i64 17)] ∧ Hd1 G' k e true ∧ Nx k G G' := by
  obtain ⟨lv, gv, cv, ev, dv, h⟩ := h
  refine (f6_moved h 0 0 0 (kd := 2) (by decide) (key := key) (.str []) (.str [118]) (.int .i64 0) .nils (.str []) (.str []) .nils .nils rfl).mono ?_
  rintro r G' ⟨rfl, hh, hn⟩
  exact ⟨rfl, ⟨lv, gv, cv, ev, dv, hh⟩, hn⟩
theorem find_no (h : Hd1 G k e true) (key : List Nat) : FnOk Tryz.prog 8 [.ptr k 0, .str key] G fun r G' => r = .tup [.agg zS, .bool false] ∧ G' = G := by
  obtain ⟨lv, gv, cv, ev, dv, h⟩ := h
  exact f8_no h key rfl
theorem at_no (h : Hd1 G k e true) (key : List Nat) : FnOk Tryz.prog 9 [.ptr k 0, .str key] G fun r G' => r = .tup [.agg zS, .bool false] ∧ G' = G := by
  obtain ⟨lv, gv, cv, ev, dv, h⟩ := h
  exact f9_no h key rfl
theorem find_yes (h : Hd1 G k e false) {key : List Nat} (hkey : isKey key) : FnOk Tryz.prog 8 [.ptr k 0, .str key] G fun r G' => (∃ cv ev dv, r = .tup [.agg [.int .i64 1, .int .i64 e, .str [], .str [], .bool false, cv, ev, dv], .bool true]) ∧ Hd1 G' k e false ∧ Nx k G G' := by
  obtain ⟨lv, gv, cv, ev, dv, h⟩ := h
  have hq : findQ key (oS e false cv ev dv) = true := by
    show (if (false : Bool) = true then false else decide (has [] [] key)) = true
    rw [if_neg Bool.false_ne_true]
    exact decide_eq_true ⟨k_span, hkey, not_ltS_nil _, .inl rfl⟩
  refine (f8_yes h key (i := 0) (idx_one hq) rfl).mono ?_
  rintro r G' ⟨rfl, rfl⟩
  exact ⟨⟨_, _, _, rfl⟩, ⟨lv, gv, cv, ev, dv, h.ext _⟩, Nx.ext h.ok _⟩
end
end Go.Proofs
/- HoldFrozen: walked, but for known. -/

set_option linter.all false
set_option linter.all false
set_option maxRecDepth 100000
namespace Go.Proofs
open Go Go.Ev
variable {H : Heap}

theorem f3_of (hknown : ∀ H : Heap, FnOk Tryz.prog 4 [] H fun r G => r = .bool true ∧ G = H) {n : Int} (hn0 : 0 ≤ n) (hn1 : n < 256) (key : List Nat) : FnOk Tryz.prog 3 [.int .u8 n, .str key] H fun r G => r = .bool true ∧ G = H := by
  refine FnOk.assume fun hok => ?_
  refine FnOk.drop (R := fun r => r = .bool true) ?_ (by rintro v rfl ρ; rw [AV.ren])
  refine FnOk.of_WW Tryz.func3 rfl C3ok R3ok E0 good_E0 ?_
  obtain ⟨N, hN5, hN⟩ : ∃ N : Nat, N ≤ 5 ∧ IntKind.i64.wrap (n.tmod 6) = (N : Int) := by
    refine ⟨(n % 6).toNat, by omega, ?_⟩
    rw [Int.tmod_eq_emod_of_nonneg hn0, wrap_i64 (by omega) (by omega)]
    omega
  simp only [go_sem, C3]
  refine CL.of (hknown _) ?_
  rintro _ G' ⟨rfl, hG⟩; rw [hG]; clear hG
  simp only [go_sem]
  refine ⟨fun _ => ⟨_, rfl⟩, fun hk1 => ⟨fun _ => ⟨_, rfl⟩, fun hk8 => ?_⟩⟩
  have hkey : isKey key := ⟨by rintro rfl; exact hk1 (by show (0 : Int) < 1; decide), by omega⟩
  refine CL.of f5_ok ?_
  rintro _ M ⟨rfl, ⟨lv, hM⟩, hB⟩
  rw [Heap.ext_nil] at hB
  have hM : Hd1 M (H.key 0) 3 false := by
    rw [Heap.key_ext] at hM
    exact ⟨lv, .nils, .nils, .nils, .nils, hM⟩
  refine WW.nil ?_
  simp only [go_sem, Heap.key_ext]
  refine LL.sth good_E0 (fun i : Nat => N + 1 - i) (fun i M => i ≤ N + 1 ∧ Hd1 M (H.key 0) (3 + i) false ∧ ∃ L, M = H.ext L)
    (fun i => [(.z, .int .u8 n), ((.o .z), .str key), ((.o (.i .z)), .ptr (H.key 0) 0), ((.i (.i .z)), .int .i64 i)]) ?_ 0 ⟨Nat.zero_le _, by rw [Heap.ext_nil]; exact hM, by rw [Heap.ext_nil]; exact hB⟩ (Slots.all (by simp only [go_sem]; first | done | rfl | trace_state))
  clear hM hB
  rintro i M0 ⟨hi, hM, hB⟩
  have hle : H.nx.toNat ≤ (H.key 0).toNat := by rw [Heap.toNat_key]; exact Nat.le_add_right ..
  by_cases hlt : i ≤ N
  · have hci : (i : Int) ≤ (N : Int) := by omega
    have hw := wrap_succ (n := i) (by omega)
    have hw3 : IntKind.i64.wrap (3 + (i : Int)) = 3 + (i : Int) := wrap_i64 (by omega) (by omega)
    have hw4 : IntKind.i64.wrap (4 + (i : Int)) = 3 + (i : Int) + 1 := by rw [wrap_i64 (by omega) (by omega)]; omega
    simp only [go_sem, C3L0, hN, hci, hw3, hw4, hw]
    refine CL.of (f7_ok 3 1 (3 + (i : Int)) 0 0 0) ?_
    rintro _ G' ⟨rfl, hG⟩; rw [hG]; clear hG
    simp only [go_sem]
    refine CL.of (do_freeze (hM.ext _)) ?_
    rintro _ M1 ⟨rfl, h1, n1⟩
    have b1 := n1.own H (ext_own hB _) hle
    refine WW.nil ?_
    simp only [go_sem, zA, hw, hw3, hw4]
    refine CL.of (find_no (h1.ext _) key) ?_
    rintro _ G' ⟨rfl, hG⟩; rw [hG]; clear hG
    simp only [go_sem, zS, hw, hw3, hw4]
    refine CL.of (at_no (h1.ext _) []) ?_
    rintro _ G' ⟨rfl, hG⟩; rw [hG]; clear hG
    simp only [go_sem, zS, hw, hw3, hw4]
    refine CL.of (do_moved (h1.ext _) key _) ?_
    rintro _ M2 ⟨rfl, h2, n2⟩
    have b2 := n2.own H (ext_own b1 _) hle
    refine WW.nil ?_
    simp only [go_sem, zA, hw, hw3, hw4]
    refine CL.of (f7_ok 4 1 (3 + (i : Int)) 0 0 0) ?_
    rintro _ G' ⟨rfl, hG⟩; rw [hG]; clear hG
    simp only [go_sem]
    refine CL.of (do_thaw (h2.ext _) (by omega) (by omega)) ?_
    rintro _ M3 ⟨rfl, h3, n3⟩
    have b3 := n3.own H (ext_own b2 _) hle
    refine WW.nil ?_
    simp only [go_sem, zA, hw, hw3, hw4]
    refine CL.of (f7_ok 3 1 (3 + (i : Int)) 0 0 0) ?_
    rintro _ G' ⟨rfl, hG⟩; rw [hG]; clear hG
    simp only [go_sem]
    refine CL.of (do_late (h3.ext _) (m := 3 + (i : Int)) (by omega) 3 (.inl rfl)) ?_
    rintro _ M4 ⟨rfl, h4, n4⟩
    have b4 := n4.own H (ext_own b3 _) hle
    refine WW.nil ?_
    simp only [go_sem, zA, hw, hw3, hw4]
    refine CL.of (f7_ok 6 1 (3 + (i : Int) + 1) 0 0 0) ?_
    rintro _ G' ⟨rfl, hG⟩; rw [hG]; clear hG
    simp only [go_sem]
    refine CL.of (do_drop (h4.ext _)) ?_
    rintro _ M5 ⟨rfl, h5, n5⟩
    have b5 := n5.own H (ext_own b4 _) hle
    refine WW.nil ?_
    simp only [go_sem, zA, hw, hw3, hw4]
    refine CL.of (find_yes (h5.ext _) hkey) ?_
    rintro _ M6 ⟨⟨cv, ev, dv, rfl⟩, h6, n6⟩
    have b6 := n6.own H (ext_own b5 _) hle
    refine WW.nil ?_
    simp only [go_sem]
    refine CL.of (f10_ok (some 17) 17) ?_
    rintro _ G' ⟨rfl, hG⟩; rw [hG]; clear hG
    simp only [go_sem]
    refine CL.of (f10_ok (some 14) 14) ?_
    rintro _ G' ⟨rfl, hG⟩; rw [hG]; clear hG
    simp only [go_sem]
    refine CL.of (f10_ok (some 14) 14) ?_
    rintro _ G' ⟨rfl, hG⟩; rw [hG]; clear hG
    simp only [go_sem, hw, hw3, hw4]
    refine ⟨i + 1, by show N + 1 - (i + 1) < N + 1 - i; omega, ⟨by omega, ?_, ext_own b6 _⟩, Slots.all (by simp only [go_sem]; first | done | rfl | trace_state)⟩
    have h7 := h6.ext
    rw [show 3 + ((i + 1 : Nat) : Int) = 3 + (i : Int) + 1 by omega]
    exact h7 _
  · have hci : ¬ (i : Int) ≤ (N : Int) := by omega
    simp only [go_sem, C3L0, hN, hci]
    obtain ⟨L, rfl⟩ := hB
    exact ⟨_, Heap.ext_append ..⟩
end Go.Proofs
/- CutTells: walked. -/

set_option linter.all false
set_option linter.all false
set_option maxRecDepth 100000
namespace Go.Proofs
open Go Go.Ev
variable {H : Heap}

theorem sameSh.symm {a b : Sh} (h : sameSh a b) : sameSh b a := ⟨h.1.symm, h.2.1.symm, h.2.2.1.symm, h.2.2.2.1.symm, h.2.2.2.2.1.symm, h.2.2.2.2.2.1.symm, h.2.2.2.2.2.2.1.symm, h.2.2.2.2.2.2.2.symm⟩
theorem sameSh.trans {a b c : Sh} (h : sameSh a b) (g : sameSh b c) : sameSh a c := ⟨h.1.trans g.1, h.2.1.trans g.2.1, h.2.2.1.trans g.2.2.1, h.2.2.2.1.trans g.2.2.2.1, h.2.2.2.2.1.trans g.2.2.2.2.1, h.2.2.2.2.2.1.trans g.2.2.2.2.2.1, h.2.2.2.2.2.2.1.trans g.2.2.2.2.2.2.1, h.2.2.2.2.2.2.2.trans g.2.2.2.2.2.2.2⟩
theorem sameSh.refl (a : Sh) : sameSh a a := ⟨rfl, rfl, rfl, rfl, rfl, rfl, rfl, rfl⟩
end Go.Proofs
/- CutOnce: walked. -/


set_option linter.all false
set_option linter.all false
set_option maxRecDepth 100000
namespace Go.Proofs
open Go Go.Ev
variable {H : Heap}

/-- a state of the loop: the shard's lists lie at these places -/
def St4 (H : Heap) (k : Nat) (q : Nat × Sh) : Prop := q.1 ≤ k ∧ AtI q.1 q.2 ∧ q.2.cv = outV (H.key 1) 5 q.2.cells.length ∧ q.2.ev = outV (H.key 2) 4 q.2.evs.length ∧ q.2.dv = outV (H.key 3) 6 q.2.done.length
theorem AtI.dok {i : Nat} {s : Sh} (h : AtI i s) (H : Heap) : allOk H s.done := by
  rw [h.done]
  split
  · exact fun d hd => absurd hd List.not_mem_nil
  · exact fun d hd => by rw [List.mem_singleton.1 hd]; exact putA_ok H _
theorem St4.ok {k : Nat} (hk : k ≤ 20) {q : Nat × Sh} (h : St4 H k q) {L : List Blk} (h1 : L[1]? = some (outB 5 (q.2.cells.map Cell.enc))) (h2 : L[2]? = some (outB 4 (q.2.evs.map Evn.enc))) (h3 : L[3]? = some (outB 6 (q.2.done.map Dn.enc))) : q.2.ok (H.ext L) where
  c := by rw [h.2.2.1]; exact arr_outV h1 (List.length_map ..)
  e := by rw [h.2.2.2.1]; exact arr_outV h2 (List.length_map ..)
  d := by rw [h.2.2.2.2]; exact arr_outV h3 (List.length_map ..)
  dok := h.2.1.dok _
  cl := by have := h.2.1.clen; omega
  el := by have := h.2.1.len; have := h.1; omega
  dl := by have := h.2.1.dlen; omega
theorem St4.next {k : Nat} {q : Nat × Sh} (h : St4 H k q) (hk : k ≤ 20) (hlt : q.1 < k) : St4 H k (q.1 + 1, askS q.2 [99] [118] 1 ((q.1 : Int) + 1) (H.key 1) (H.key 2) (H.key 3)) := by
  refine ⟨hlt, h.2.1.next (by omega) _ _ _, ?_, rfl, rfl⟩
  show outV _ 5 (refW _ _).length = outV _ 5 (keepC _ _).length
  rw [keepC_len]
theorem f102_yes {s : Sh} (h : s.ok H) (hd : s.done.length < 100000) (he : s.evs.length < 100000) {k : List Nat} {l r : Int} (g1 : okSplit s l r) (g2 : inSplit s k) :
    FnOk Tryz.prog 102 [.agg s.enc, .str k, .int .i64 l, .int .i64 r] H fun v G => ∃ a b L, v = .tup [.agg (Sh.enc a), .agg (Sh.enc b), .nili] ∧ G = H.ext L ∧ Sh.ok G a ∧ Sh.ok G b ∧ sameSh a (saidPart s l s.fr k) ∧ sameSh b (saidPart s r k s.to) := by
  refine (f102_ok h hd he k l r).mono ?_
  rintro v G ⟨rfl, rfl⟩
  unfold splitV splitB
  rw [if_pos g1, if_pos g2, if_pos ⟨g1, g2⟩]
  exact ⟨_, _, _, rfl, rfl, part_ok h l s.fr k (a := 0) (b := 1) (c := 2) rfl rfl rfl, part_ok h r k s.to (a := 3) (b := 4) (c := 5) rfl rfl rfl, ⟨rfl, rfl, rfl, rfl, rfl, rfl, rfl, rfl⟩, ⟨rfl, rfl, rfl, rfl, rfl, rfl, rfl, rfl⟩⟩
end Go.Proofs
/- a request that puts a key, at a node of one shard that has nothing in it: walked. -/


set_option linter.all false
set_option linter.all false
set_option maxRecDepth 100000
namespace Go.Proofs
open Go Go.Ev
variable {H : Heap}

theorem k_key : isKey [107] := ⟨by simp, by show (1 : Int) ≤ 8; decide⟩
/-- the shard behind that request -/
def aS (cv ev dv : AV) : Sh := ⟨1, 1, [], [], false, [⟨[107], [118], 1, false, 0⟩], [⟨[107], 1, [118], false⟩], [⟨0, 1, putA 1⟩], cv, ev, dv⟩
theorem aS_small (cv ev dv : AV) : smallS (aS cv ev dv) := ⟨fun d hd => by rw [List.mem_singleton.1 hd]; exact ⟨rfl, rfl⟩, Nat.lt_of_sub_eq_succ rfl, Nat.lt_of_sub_eq_succ rfl, Nat.lt_of_sub_eq_succ rfl⟩
theorem ask_put : FnOk Tryz.prog 51 [.agg (nS 1 1 [] [] false).enc, .int .i64 0, .int .i64 1, .agg [.int .i64 2, .str [107], .str [], .str [118], .int .i64 0, .nils]] H
    fun r G => (∃ cv ev dv, r = .tup [.agg (aS cv ev dv).enc, .agg [.int .i64 0, .str [], .int .i64 1, .nils], .int .i64 0] ∧ (aS cv ev dv).ok G) ∧ ∃ L, G = H.ext L := by
  refine (f51_put (s := nS 1 1 [] [] false) (nS_ok ..) (ke := H.key 0) rfl (by show 0 < 9000; decide) (by show 0 < 9000; decide) k_key (v := [118]) (by show (1 : Int) ≤ 12; decide) hist_nil (by show (0 : Int) < 1000000000000; decide) (by show 0 < 9000; decide) List.Pairwise.nil (fun d hd => absurd hd List.not_mem_nil) (ses := 0) (id := 1) rfl).mono ?_
  rintro r G ⟨rfl, rfl⟩
  have hr : refW [] (nextC [] [107] [118] false) = [⟨[107], [118], 1, false, 0⟩] := by rw [refW_eq hist_nil.1]; rfl
  have hS : ∀ k0 k1 k2, askS (nS 1 1 [] [] false) [107] [118] 0 1 k0 k1 k2 = aS (outV k0 5 1) (outV k1 4 1) (outV k2 6 1) := fun k0 k1 k2 => by
    unfold askS addS
    rw [show (nS 1 1 [] [] false).cells = [] from rfl, hr]
    rfl
  have hB : askB (nS 1 1 [] [] false) [107] [118] 0 1 = [.row true 5 [Cell.enc ⟨[107], [118], 1, false, 0⟩], .row true 4 [Evn.enc ⟨[107], 1, [118], false⟩], .row true 6 [Dn.enc ⟨0, 1, putA 1⟩]] := by
    unfold askB addB
    rw [show (nS 1 1 [] [] false).cells = [] from rfl, hr]
    rfl
  rw [hS, hB]
  refine ⟨⟨_, _, _, rfl, ?_⟩, _, rfl⟩
  exact ⟨arr_outV (i := 0) (n := 1) (xs := [Cell.enc ⟨[107], [118], 1, false, 0⟩]) rfl rfl, arr_outV (i := 1) (n := 1) (xs := [Evn.enc ⟨[107], 1, [118], false⟩]) rfl rfl, arr_outV (i := 2) (n := 1) (xs := [Dn.enc ⟨0, 1, putA 1⟩]) rfl rfl, fun d hd => by rw [List.mem_singleton.1 hd]; exact putA_ok _ _, Nat.lt_of_sub_eq_succ rfl, Nat.lt_of_sub_eq_succ rfl, Nat.lt_of_sub_eq_succ rfl⟩
theorem get_of_ext {M : Heap} {bl L : List Blk} (hM : M = (H.ext bl).ext L) {i : Nat} {x : Blk} (h : bl[i]? = some x) : M.get (H.key i) = some x := by rw [hM]; exact get_lit2 h
theorem set_of_ext {M : Heap} {bl L : List Blk} (hM : M = (H.ext bl).ext L) {i : Nat} (h : i < bl.length) (b : Blk) (l : List Blk) : ∃ M2, (M.set (H.key i) b).ext l = H.ext M2 := by
  rw [hM, Heap.ext_append, Heap.set_ext_key _ _ _ _ (by rw [List.length_append]; omega), Heap.ext_append]
  exact ⟨_, rfl⟩
section
variable {G : Heap} {k : K} {lv : AV}
theorem f19_ask (h : isHd G k lv .nils [nS 1 1 [] [] false] []) : FnOk Tryz.prog 19 [.ptr k 0, .agg [.int .i64 2, .int .i64 0, .int .i64 1, .int .i64 0, .int .i64 0, .int .i64 0, .int .i64 2, .str [107], .str [], .str [118], .int .i64 0, .nils, .str [], .str [], .nils, .nils]] G fun r G' => r = .tup [.agg [.int .i64 0, .str [], .int .i64 1, .nils], .nili] ∧ (∃ lv' cv ev dv, isHd G' k lv' .nils [aS cv ev dv] []) ∧ Nx k G G' := by
  refine FnOk.of_WW Tryz.func19 rfl C19ok R19ok E0 good_E0 ?_
  have hq : findQ [107] (nS 1 1 [] [] false) = true := by
    show (if (false : Bool) = true then false else decide (has [] [] [107])) = true
    rw [if_neg Bool.false_ne_true]
    exact decide_eq_true (k_has 107)
  have hcp : ∀ k0 k1 k2, (nS 1 1 [] [] false).cop k0 k1 k2 = nS 1 1 [] [] false := fun _ _ _ => rfl
  have hcb : copB (nS 1 1 [] [] false) = [.dead, .dead, .dead] := rfl
  simp only [go_sem, C19]
  refine CL.of (f50_ok (by decide) [107] _ _ _ _) ?_
  rintro _ G' ⟨rfl, hG⟩; rw [hG]; clear hG
  simp only [go_sem]
  refine CL.of (f8_yes (h.ext _) [107] (i := 0) (idx_one hq) rfl) ?_
  rintro _ G' ⟨rfl, hG⟩
  rw [hG, hcp, hcb]
  clear hG
  simp only [go_sem, nS, Sh.enc]
  refine CL.of ask_put ?_
  rintro _ M ⟨⟨cv, ev, dv, rfl, haok⟩, L, hM⟩
  have hMok : M.ok := by rw [hM]; exact Heap.ok_ext (Heap.ok_ext h.ok _) _
  have e1 := get_of_ext hM (i := 1) rfl
  have e5 := get_of_ext hM (i := 5) rfl
  have hset := set_of_ext hM (i := 5) (Nat.lt_of_sub_eq_succ rfl)
  have g1 := fun L => Heap.get_ext_old hMok e1 L
  have s5 := fun b (l : List Blk) (α : Type) (c' : Heap → α) => Heap.setC_here hMok e5 b l c'
  have k5 := fun b (l : List Blk) => Heap.get_set_here hMok e5 b l
  have g5 := fun L => Heap.get_ext_old hMok e5 L
  have hh : ∀ b l, isHd ((M.set (G.key 5) b).ext l) k lv .nils [nS 1 1 [] [] false] [] := fun b l => by
    obtain ⟨M2, e⟩ := hset b l
    rw [e]
    exact h.ext M2
  have hn : ∀ b l, Nx k G ((M.set (G.key 5) b).ext l) := fun b l => by
    obtain ⟨M2, e⟩ := hset b l
    rw [e]
    exact Nx.ext h.ok M2
  have ha : ∀ b l, (aS cv ev dv).ok ((M.set (G.key 5) b).ext l) := fun b l => ⟨(haok.c.set e5 (by decide)).ext l, (haok.e.set e5 (by decide)).ext l, (haok.d.set e5 (by decide)).ext l, bareL.ok (aS_small cv ev dv).b _, haok.cl, haok.el, haok.dl⟩
  have hne : G.key 5 ≠ G.key 1 := fun e => by
    have := congrArg K.toNat e
    rw [Heap.toNat_key, Heap.toNat_key] at this
    omega
  have hg1 : ∀ b l, ((M.set (G.key 5) b).ext l).get (G.key 1) = _ := fun b l => Heap.get_set_there hMok e1 hne b l
  have hg0 : ∀ b x, ((M.set (G.key 5) b).ext [x]).get (M.key 0) = some x := fun b x => Heap.get_key_set (Nat.zero_lt_succ _)
  refine WW.nil ?_
  simp only [go_sem, aS, Sh.enc, g5, s5, k5]
  refine CL.of (f52_same (s := aS cv ev dv) (hh _ _) rfl (ha _ _) (aS_small ..)) ?_
  rintro _ M3 ⟨rfl, ⟨lv3, h3⟩, n3⟩
  have hMk : k ≠ M.key 0 := by
    have hMG := h.ok _ _ h.row
    rintro rfl
    have h1 := hMok _ _ (by rw [hM, Heap.ext_append]; exact Heap.get_ext_old h.ok h.row _)
    rw [Heap.toNat_key] at h1
    omega
  have q0 := n3.keep (M.key 0) _ hMk (hg0 _ _)
  have q1 := n3.keep (G.key 1) _ (ne_key h.ok h.row 1) (hg1 _ _)
  have r0 := fun L => Heap.get_ext_old h3.ok q0 L
  have r1 := fun L => Heap.get_ext_old h3.ok q1 L
  have s1 := fun b (l : List Blk) (α : Type) (c' : Heap → α) => Heap.setC_here h3.ok q1 b l c'
  have k1 := fun b (l : List Blk) => Heap.get_set_here h3.ok q1 b l
  refine WW.nil ?_
  simp only [go_sem, r0, r1, s1, k1]
  exact ⟨⟨lv3, cv, ev, dv, (h3.cell q1 _).ext []⟩, ((hn _ _).trans n3).cell h.ok h3.ok q1 _ _⟩
theorem f6_ask (h : isHd G k lv .nils [nS 1 1 [] [] false] []) : FnOk Tryz.prog 6 [.ptr k 0, .agg [.int .i64 2, .int .i64 0, .int .i64 1, .int .i64 0, .int .i64 0, .int .i64 0, .int .i64 2, .str [107], .str [], .str [118], .int .i64 0, .nils, .str [], .str [], .nils, .nils]] G fun r G' => r = .tup [.agg [.int .i64 0, .str [], .int .i64 1, .nils], .nili] ∧ (∃ lv' cv ev dv, isHd G' k lv' .nils [aS cv ev dv] []) ∧ Nx k G G' := by
  refine FnOk.of_WW Tryz.func6 rfl C6ok R6ok E0 good_E0 ?_
  have hk : ∀ L, (G.ext L).get k = _ := fun L => Heap.get_ext_old h.ok h.row L
  simp only [go_sem, C6, hk]
  refine CL.of (f19_ask (h.ext _)) ?_
  rintro _ G' ⟨rfl, ⟨lv', cv, ev, dv, hhd⟩, hnx⟩
  obtain ⟨G1, hG1⟩ : ∃ G1, G1 = G' := ⟨_, rfl⟩
  rw [← hG1] at hhd hnx ⊢
  clear hG1
  have e1 := hnx.keep (G.key 1) _ (ne_key h.ok h.row 1) (get_lit rfl)
  have e3 := hnx.keep (G.key 3) _ (ne_key h.ok h.row 3) (get_lit rfl)
  have g3 := fun L => Heap.get_ext_old hhd.ok e3 L
  have s3 := fun b (l : List Blk) (α : Type) (c' : Heap → α) => Heap.setC_here hhd.ok e3 b l c'
  have k3 := fun b (l : List Blk) => Heap.get_set_here hhd.ok e3 b l
  have hne : G.key 3 ≠ G.key 1 := fun e => by
    have := congrArg K.toNat e
    rw [Heap.toNat_key, Heap.toNat_key] at this
    omega
  have o2 : ∀ b, (G1.set (G.key 3) b).ok := fun b => Heap.ok_set hhd.ok e3
  have e1' : ∀ b, (G1.set (G.key 3) b).get (G.key 1) = some (.row true 4 [[.int .i64 0, .str [], .int .i64 0, .nils]]) := fun b => by
    have := Heap.get_set_there hhd.ok e1 hne b []
    rwa [Heap.ext_nil] at this
  have g1 := fun b L => Heap.get_ext_old (o2 b) (e1' b) L
  have s1 := fun b b' (l : List Blk) (α : Type) (c' : Heap → α) => Heap.setC_here (o2 b) (e1' b) b' l c'
  have k1 := fun b b' (l : List Blk) => Heap.get_set_here (o2 b) (e1' b) b' l
  refine WW.nil ?_
  simp only [go_sem, g3, s3, k3]
  refine CL.of (f22_none _) ?_
  rintro _ G' ⟨rfl, hG⟩; rw [hG]; clear hG
  simp only [go_sem]
  refine CL.of (f23_ok none 10) ?_
  rintro _ G' ⟨rfl, hG⟩; rw [hG]; clear hG
  simp only [go_sem, g3, s3, k3, g1, s1, k1]
  have hn3 : ∀ b, Nx k G (G1.set (G.key 3) b) := fun b => by
    have := ((Nx.ext h.ok _).trans hnx).cell h.ok hhd.ok e3 b []
    rwa [Heap.ext_nil] at this
  exact ⟨⟨lv', cv, ev, dv, ((hhd.cell e3 _).cell (e1' _) _).ext _⟩, (hn3 _).cell h.ok (o2 _) (e1' _) _ _⟩
end
end Go.Proofs
/- what was given away; whether a number is fresh; a shard given away: walked. -/

set_option linter.all false
set_option linter.all false
set_option maxRecDepth 100000
namespace Go.Proofs
open Go Go.Ev
variable {H : Heap}

/-- the epoch of what was given away -/
def goneN : List Gn → Int → Int
  | [], _ => 0
  | g :: l, n => if g.id = n then g.ep else goneN l n
theorem gone_next {l : List Gn} {i : Nat} {g : Gn} (n : Int) (h : l[i]? = some g) : goneN (l.drop i) n = if g.id = n then g.ep else goneN (l.drop (i + 1)) n := by
  obtain ⟨h1, h2⟩ := List.getElem?_eq_some_iff.1 h
  rw [List.drop_eq_getElem_cons h1, h2]
  rfl
section
variable {G : Heap} {k : K} {lv gv : AV} {hs : List Sh} {gs : List Gn}
theorem off2 (a b c : Nat) : a * 2 + b + c = a * 2 + (b + c) := Nat.add_assoc ..
theorem f15_ok (h : isHd G k lv gv hs gs) (n : Int) : FnOk Tryz.prog 15 [.ptr k 0, .int .i64 n] G fun r G' => r = .int .i64 (goneN gs n) ∧ G' = G := by
  refine FnOk.drop (R := fun r => r = .int .i64 (goneN gs n)) ?_ (by rintro v rfl ρ; rw [AV.ren])
  refine FnOk.of_WW Tryz.func15 rfl C15ok R15ok E0 good_E0 ?_
  have hk : ∀ L, (G.ext L).get k = _ := fun L => Heap.get_ext_old h.ok h.row L
  have hA := h.g
  have hlen := fun G => hA.len G; simp only [List.length_map] at hlen; have hren := hA.ren
  have hfew := h.few.2
  simp only [go_sem, C15, hk, hlen]
  refine LL.st good_E0 (fun i : Nat => gs.length - i) (fun i => i ≤ gs.length ∧ goneN gs n = goneN (gs.drop i) n)
    (fun i => [((.o .z), .int .i64 n), ((.i (.i (.o .z))), gv), ((.o (.o (.i .z))), .int .i64 gs.length), ((.i (.o (.i .z))), .int .i64 i)]) (fun i => []) ?_ 0 (σ := []) (Wk.of rfl (by decide) (by simp only [go_sem, hren]) (by simp only [go_sem])) ⟨Nat.zero_le _, rfl⟩
  rintro i ⟨hi, hno⟩
  by_cases hlt : i < gs.length
  · obtain ⟨kk, r, ex', cap', wr, rows, hv, hrho, hgo, hrow⟩ := hA.at h.ok (j := i) (by rw [List.length_map]; exact hlt)
    simp only [List.length_map, List.getElem_map] at hv hrow
    have hget : gs[i]? = some gs[i] := List.getElem?_eq_getElem hlt
    generalize gs[i] = c at hrow hget
    have hw := wrap_succ (n := i) (by omega)
    have hci : (i : Int) < (gs.length : Int) := (by omega)
    have hsi : i + 1 ≤ gs.length := (by omega)
    have hnx := gone_next n hget
    simp only [go_sem, C15L0, hv, hci, hsi, hgo, hrow, hw, Gn.enc, off2]
    refine ⟨fun hc => ⟨by rw [hno, hnx, if_pos hc], _, rfl⟩, fun hc => ?_⟩
    rw [if_neg hc] at hnx
    exact ⟨i + 1, by show gs.length - (i + 1) < gs.length - i; omega, ⟨by omega, hno.trans hnx⟩, _, [], rfl, Wk.of rfl (by decide) (by simp only [go_sem, hren, hrho, hv, hw]; first | done | rfl | trace_state) (by simp only [go_sem])⟩
  · have hci : ¬ (i : Int) < (gs.length : Int) := by omega
    simp only [go_sem, C15L0, hci]
    exact ⟨by rw [hno, List.drop_eq_nil_of_le (by omega)]; rfl, _, rfl⟩
theorem f101_yes (h : isHd G k lv gv hs gs) {n : Int} (hx : idx (fun s => decide (s.id = n)) hs 0 = -1) (hg : goneN gs n = 0) : FnOk Tryz.prog 101 [.ptr k 0, .int .i64 n] G fun r G' => r = .bool true ∧ G' = G := by
  refine FnOk.drop (R := fun r => r = .bool true) ?_ (by rintro v rfl ρ; rw [AV.ren])
  refine FnOk.of_WW Tryz.func101 rfl C101ok R101ok E0 good_E0 ?_
  simp only [go_sem, C101]
  refine CL.of (f12_no (h.ext _) n hx) ?_
  rintro _ G' ⟨rfl, hG⟩; rw [hG]; clear hG
  simp only [go_sem, zS]
  refine CL.of (f15_ok (h.ext _) n) ?_
  rintro _ G' ⟨rfl, hG⟩
  rw [hG, hg]
  clear hG
  simp only [go_sem]
  exact ⟨_, rfl⟩
/-- gone: asked of where nothing was given away -/
noncomputable def EGn (f : FuncId) (args : List AV) (H : Heap) : RC :=
  match f with
  | 15 => match args with
    | [.ptr k 0, .int .i64 n] => match H.get k with
      | some (.row wr 2 [[lv, .nils]]) => .ok (.int .i64 0) H
      | _ => .fail
    | _ => .fail
  | _ => .fail
theorem f15_nil {H : Heap} {k : K} {wr : Bool} {lv : AV} (hk : H.get k = some (.row wr 2 [[lv, .nils]])) (n : Int) : FnOk Tryz.prog 15 [.ptr k 0, .int .i64 n] H fun r G' => r = .int .i64 0 ∧ G' = H := by
  refine FnOk.assume fun hok => ?_
  refine FnOk.drop (R := fun r => r = .int .i64 0) ?_ (by rintro v rfl ρ; rw [AV.ren])
  refine FnOk.of_WW Tryz.func15 rfl C15ok R15ok E0 good_E0 ?_
  have hgo := Heap.get_ext_old hok hk
  simp only [go_sem, C15, hgo]
  refine LL.st good_E0 (fun _ : Nat => 0) (fun _ => True) (fun _ => [((.o (.o (.i .z))), .int .i64 0), ((.i (.o (.i .z))), .int .i64 0)]) (fun _ => []) ?_ 0 (σ := []) (Wk.of rfl (by decide) (by simp only [go_sem]; first | done | rfl | trace_state) (by simp only [go_sem])) trivial
  rintro _ _
  simp only [go_sem, C15L0]
  exact ⟨_, rfl⟩
theorem good_EGn : Ev.Good Tryz.prog EGn := by
  intro f args H r G he φ w args' ha hw
  refine (?_ : FnOk Tryz.prog f args H fun v' G' => v' = r ∧ G' = G).one φ w args' ha hw
  unfold EGn at he
  split at he
  · split at he
    · split at he
      · rename_i hk
        cases he; exact f15_nil hk _
      · cases he
    · cases he
  · cases he
theorem eg15 {k : K} {wr : Bool} {lv : AV} {n : Int} {H : Heap} (hk : H.get k = some (.row wr 2 [[lv, .nils]])) : EGn 15 [.ptr k 0, .int .i64 n] H = .ok (.int .i64 0) H := by
  show (match H.get k with | some (.row wr 2 [[lv, .nils]]) => .ok (.int .i64 0) H | _ => .fail : RC) = _
  rw [hk]
  rfl
theorem f104_ok {H : Heap} {c : K} {wr : Bool} {s : Sh} (hk : H.get c = some (.row wr 8 [s.enc])) (o : Sh) : FnOk Tryz.prog 104 [.agg o.enc, .ptr c 0] H fun r G => r = .bool (decide (o.id = s.id)) ∧ G = H := by
  refine FnOk.assume fun hok => ?_
  refine FnOk.drop (R := fun r => r = .bool (decide (o.id = s.id))) ?_ (by rintro v rfl ρ; rw [AV.ren])
  refine FnOk.of_WW Tryz.func104 rfl C104ok R104ok E0 good_E0 ?_
  have hgo := Heap.get_ext_old hok hk
  simp only [Sh.enc] at hgo
  simp only [go_sem, C104, Sh.enc, hgo]
  exact ⟨fun h => ⟨bool_t h, _, rfl⟩, fun h => ⟨bool_f h, _, rfl⟩⟩
theorem f162_nil (g : AV) : FnOk Tryz.prog 162 [.nils, g] H fun r G => r = .int .i64 (-1) ∧ G = H := by
  refine FnOk.drop (R := fun r => r = .int .i64 (-1)) ?_ (by rintro v rfl ρ; rw [AV.ren])
  refine FnOk.of_WW Tryz.func162 rfl C162ok R162ok E0 good_E0 ?_
  simp only [go_sem, C162]
  refine LL.st good_E0 (fun _ : Nat => 0) (fun _ => True) (fun _ => [((.o (.o (.o .z))), .int .i64 0), ((.i (.o (.o .z))), .int .i64 0)]) (fun _ => []) ?_ 0 (σ := []) (Wk.of rfl (by decide) (by simp only [go_sem]; first | done | rfl | trace_state) (by simp only [go_sem])) trivial
  rintro _ _
  simp only [go_sem, C162L0]
  exact ⟨_, rfl⟩
theorem f105_nil (g : AV) : FnOk Tryz.prog 105 [.nils, g] H fun r G => r = .nils ∧ G = H := by
  refine FnOk.drop (R := fun r => r = .nils) ?_ (by rintro v rfl ρ; rw [AV.ren])
  refine FnOk.of_WW Tryz.func105 rfl C105ok R105ok E0 good_E0 ?_
  simp only [go_sem, C105]
  refine CL.of (f162_nil _) ?_
  rintro _ G' ⟨rfl, hG⟩; rw [hG]; clear hG
  simp only [go_sem]
  exact ⟨_, rfl⟩
end
end Go.Proofs
/- the only shard given away; shards put where there is none, where there is another: walked. -/

set_option linter.all false
set_option linter.all false
set_option maxRecDepth 100000
namespace Go.Proofs
open Go Go.Ev
variable {H : Heap}

section
variable {G : Heap} {k : K} {lv gv : AV} {gs : List Gn}
theorem isHd.drop {hs : List Sh} {gs : List Gn} (h : isHd G k lv gv hs gs) {L : List Blk} {i j : Nat} {id ep : Int} (hi : L[i]? = some (.row true 8 [zS])) (hj : L[j]? = some (.row true 2 [[.int .i64 id, .int .i64 ep]])) :
    isHd ((G.set k (.row true 2 [[.slice (G.key i) 0 0 8 false 1, .slice (G.key j) 0 1 2 false 1]])).ext L) k (.slice (G.key i) 0 0 8 false 1) (.slice (G.key j) 0 1 2 false 1) [] [⟨id, ep⟩] := by
  have hok := Heap.ok_ext (Heap.ok_set h.ok h.row (b := .row true 2 [[.slice (G.key i) 0 0 8 false 1, .slice (G.key j) 0 1 2 false 1]])) L
  have hgi : ((G.set k (.row true 2 [[.slice (G.key i) 0 0 8 false 1, .slice (G.key j) 0 1 2 false 1]])).ext L).get (G.key i) = some (.row true 8 [zS]) := by rw [Heap.get_key_set (List.getElem?_eq_some_iff.1 hi).1, hi]
  have hgj : ((G.set k (.row true 2 [[.slice (G.key i) 0 0 8 false 1, .slice (G.key j) 0 1 2 false 1]])).ext L).get (G.key j) = some (.row true 2 [[.int .i64 id, .int .i64 ep]]) := by rw [Heap.get_key_set (List.getElem?_eq_some_iff.1 hj).1, hj]
  exact ⟨hok, Heap.get_set_here h.ok h.row _ L, .inr ⟨G.key i, 0, false, 1, rfl, hok _ _ hgi, fun hx => absurd rfl hx⟩, .inr ⟨G.key j, 0, false, 1, rfl, hok _ _ hgj, fun _ => ⟨0, true, _, rfl, hgj, rfl⟩⟩, fun s hs => absurd hs List.not_mem_nil, fun s hs => absurd hs List.not_mem_nil, Nat.zero_le _, by show 1 ≤ 8; decide⟩
theorem f57_only {o s : Sh} (h : isHd G k lv .nils [o] []) (hid : o.id = s.id) (h0 : 0 ≤ s.ep) : FnOk Tryz.prog 57 [.ptr k 0, .agg s.enc] G fun r G' => r = .tup [] ∧ (∃ c gv', isHd G' k (.slice c 0 0 8 false 1) gv' [] [⟨s.id, s.ep⟩]) ∧ Nx k G G' := by
  refine FnOk.of_WW Tryz.func57 rfl C57ok R57ok EGn good_EGn ?_
  have hk : ∀ L, (G.ext L).get k = _ := fun L => Heap.get_ext_old h.ok h.row L
  have hset := fun b (l : List Blk) (α : Type) (c' : Heap → α) => Heap.setC_here h.ok h.row b l c'
  have hset2 := fun b d (l : List Blk) (α : Type) (c' : Heap → α) => Heap.setC_set_here h.ok h.row b d l c'
  have hk2 := fun b (l : List Blk) => Heap.get_set_here h.ok h.row b l
  have hmax : max s.ep 0 = s.ep := by omega
  have i15 := fun (v : AV) (l : List Blk) (n : Int) => eg15 (k := k) (wr := true) (lv := v) (n := n) (hk2 (.row true 2 [[v, .nils]]) l)
  simp only [go_sem, C57, hk, Sh.enc]
  refine CL.of (clone_zd clo97 (h.l.ext _) (by show (2 * 1 + 192) * 128 ≤ 281474976710656; decide) (fun top σ => shs_rens (fun s hs => (h.each s hs).ext _) top σ)) ?_
  rintro _ _ ⟨rfl, rfl⟩
  simp only [go_sem, zV_pos (show 0 < 0 + 1 from Nat.zero_lt_succ 0), zB_pos (show 0 < [o.enc].length from Nat.zero_lt_succ 0)]
  refine CL.of (f96_only (q := fun o => decide (o.id = s.id)) (Heap.ok_ext h.ok _) (get_lit rfl) (fun _ _ => call104 ..) (fun top σ => by exact cap_lit (Nat.zero_lt_succ _) 104 top σ) (fun L => by exact f104_ok (s := s) (get_lit2 rfl) o) (decide_eq_true hid)) ?_
  rintro _ G' ⟨rfl, hG⟩
  rw [hG, Heap.set_ext_key _ _ _ _ (by exact Nat.lt_succ_self 1)]
  clear hG
  simp only [go_sem, hk, hset, hset2, hk2, i15, hmax]
  refine CL.of (clone_nil clo42) ?_
  rintro _ G' ⟨rfl, hG⟩; rw [hG]; clear hG
  simp only [go_sem]
  refine CL.of (f105_nil _) ?_
  rintro _ G' ⟨rfl, hG⟩; rw [hG]; clear hG
  simp only [go_sem, hk, hset, hset2, hk2, i15, hmax]
  have hh := fun L h1 h3 => isHd.drop h (L := L) (i := 1) (j := 3) (id := s.id) (ep := s.ep) h1 h3
  refine CL.of (f47_ok (gs := [⟨s.id, s.ep⟩]) (hh _ (by rfl) (by rfl)).g (Nat.le_refl 1) 107) ?_
  rintro _ G' ⟨rfl, hG⟩; rw [hG]; clear hG
  simp only [go_sem]
  exact ⟨⟨_, _, hh _ rfl rfl⟩, Nx.set h.ok h.row _ _⟩
/-- where there is none -/
theorem f52_first {c : K} {ex : Bool} {cap : Nat} {s : Sh} (h : isHd G k (.slice c 0 0 8 ex cap) gv [] gs) (hs : s.ok G) (hsm : smallS s) : FnOk Tryz.prog 52 [.ptr k 0, .agg s.enc] G fun r G' => r = .tup [] ∧ (∃ lv', isHd G' k lv' gv [s] gs) ∧ Nx k G G' := by
  refine FnOk.of_WW Tryz.func52 rfl C52ok R52ok E0 good_E0 ?_
  have hk : ∀ L, (G.ext L).get k = _ := fun L => Heap.get_ext_old h.ok h.row L
  have hset := fun b (l : List Blk) (α : Type) (c' : Heap → α) => Heap.setC_here h.ok h.row b l c'
  have hset2 := fun b d (l : List Blk) (α : Type) (c' : Heap → α) => Heap.setC_set_here h.ok h.row b d l c'
  have hk2 := fun b (l : List Blk) => Heap.get_set_here h.ok h.row b l
  simp only [go_sem, C52, hk, Sh.enc]
  refine CL.of (clone_zd clo97 (h.l.ext _) (by show (2 * 0 + 192) * 128 ≤ 281474976710656; decide) (fun top σ => rfl)) ?_
  rintro _ _ ⟨rfl, rfl⟩
  have hz : nilB (.slice c 0 0 8 ex cap) = false := rfl
  have hz1 : ∀ k, zV false k 8 0 = .slice k 0 0 8 true 0 := fun _ => rfl
  have hz2 : zB false 8 [] = .row true 8 [] := rfl
  simp only [go_sem, hz, hz1, hz2]
  refine CL.of (f96_none (l := []) (q := fun o => decide (o.id = s.id)) (.inr ⟨G.key 1, 0, true, 0, rfl, Heap.ok_ext h.ok _ _ _ (get_lit rfl), fun hx => absurd rfl hx⟩) (Nat.zero_le _) (fun _ _ => call98 ..) (fun top σ => by exact cap_lit (Nat.zero_lt_succ _) 98 top σ) (fun o ho => absurd ho List.not_mem_nil) rfl) ?_
  rintro _ G' ⟨rfl, hG⟩; rw [hG]; clear hG
  simp only [go_sem, hk, hset, hset2, hk2]
  have hput := fun L (hj : L[3]? = some (.row true 8 ([s].map Sh.enc))) => isHd.put (hs' := [s]) h (L := L) (j := 3) hj (fun x hx => by rw [List.mem_singleton.1 hx]; exact hs) (fun x hx => by rw [List.mem_singleton.1 hx]; exact hsm) (by show 1 ≤ 8; decide) 1 false
  refine CL.of (f46_ok (hput _ (by rfl)) (Nat.le_refl 1)) ?_
  rintro _ G' ⟨rfl, hG⟩; rw [hG]; clear hG
  simp only [go_sem]
  exact ⟨⟨_, hput _ rfl⟩, Nx.set h.ok h.row _ _⟩
/-- behind another -/
theorem f52_more {a s : Sh} (h : isHd G k lv gv [a] gs) (hid : ¬ a.id = s.id) (hs : s.ok G) (hsm : smallS s) (hst : sorted2 [a, s]) : FnOk Tryz.prog 52 [.ptr k 0, .agg s.enc] G fun r G' => r = .tup [] ∧ (∃ lv', isHd G' k lv' gv [a, s] gs) ∧ Nx k G G' := by
  refine FnOk.of_WW Tryz.func52 rfl C52ok R52ok E0 good_E0 ?_
  have hk : ∀ L, (G.ext L).get k = _ := fun L => Heap.get_ext_old h.ok h.row L
  have hset := fun b (l : List Blk) (α : Type) (c' : Heap → α) => Heap.setC_here h.ok h.row b l c'
  have hset2 := fun b d (l : List Blk) (α : Type) (c' : Heap → α) => Heap.setC_set_here h.ok h.row b d l c'
  have hk2 := fun b (l : List Blk) => Heap.get_set_here h.ok h.row b l
  have haok := h.each a (by simp)
  simp only [go_sem, C52, hk, Sh.enc]
  refine CL.of (clone_zd clo97 (h.l.ext _) (by show (2 * 1 + 192) * 128 ≤ 281474976710656; decide) (fun top σ => shs_rens (fun s hs => (h.each s hs).ext _) top σ)) ?_
  rintro _ _ ⟨rfl, rfl⟩
  simp only [go_sem, zV_pos (show 0 < 0 + 1 from Nat.zero_lt_succ 0), zB_pos (show 0 < [a.enc].length from Nat.zero_lt_succ 0)]
  have hidx : idx (fun o : Sh => decide (o.id = s.id)) [a] 0 = -1 := by unfold idx; rw [decide_eq_false hid, if_neg Bool.false_ne_true]; rfl
  refine CL.of (f96_none (l := [a]) (q := fun o => decide (o.id = s.id)) (.inr ⟨G.key 1, 0, false, 1, rfl, Heap.ok_ext h.ok _ _ _ (get_lit rfl), fun _ => ⟨0, true, _, rfl, get_lit rfl, rfl⟩⟩) (by show 1 ≤ 100000; decide) (fun _ _ => call98 ..) (fun top σ => by exact cap_lit (Nat.zero_lt_succ _) 98 top σ) (fun o ho L => by rw [List.mem_singleton.1 ho]; exact f98_ok (s := s) (get_lit2 rfl) a) hidx) ?_
  rintro _ G' ⟨rfl, hG⟩; rw [hG]; clear hG
  simp only [go_sem, hk, hset, hset2, hk2]
  have hput := fun L (hj : L[3]? = some (.row true 8 ([a, s].map Sh.enc))) => isHd.put (hs' := [a, s]) h (L := L) (j := 3) hj (fun x hx => by
      rcases List.mem_cons.1 hx with rfl | hx
      · exact haok
      · rw [List.mem_singleton.1 hx]; exact hs) (fun x hx => by
      rcases List.mem_cons.1 hx with rfl | hx
      · exact h.small _ (by simp)
      · rw [List.mem_singleton.1 hx]; exact hsm) (by show 2 ≤ 8; decide) 2 false
  refine CL.of (f46_ok (hput _ (by rfl)) hst) ?_
  rintro _ G' ⟨rfl, hG⟩; rw [hG]; clear hG
  simp only [go_sem]
  exact ⟨⟨_, hput _ rfl⟩, Nx.set h.ok h.row _ _⟩
end
end Go.Proofs
/- a shard split at a node: walked. -/

set_option linter.all false
set_option linter.all false
set_option maxRecDepth 100000
namespace Go.Proofs
open Go Go.Ev
variable {H : Heap}

theorem aS_hist (cv ev dv : AV) : isHist (aS cv ev dv).evs (aS cv ev dv).cells := by
  have := hist_put hist_nil k_key (v := [118]) (by show (1 : Int) ≤ 12; decide) (d := false) (fun h => absurd h Bool.false_ne_true) (by show (0 : Int) < 1000000000000; decide)
  exact this
theorem aS_sh (cv ev dv : AV) : isSh (aS cv ev dv) := ⟨⟨by show (1 : Int) ≤ 1; decide, by show (1 : Int) ≤ 1000000000000; decide, by show (1 : Int) ≤ 1; decide, by show (1 : Int) ≤ 1000000; decide⟩, k_span, fun c hc => by
  rw [List.mem_singleton.1 hc]
  exact k_has 107, by show (1 : Int) ≤ 24; decide, aS_hist cv ev dv, done_iff.2 ⟨fun c hc => by
    rw [List.mem_singleton.1 hc]
    exact ⟨⟨by show (0 : Int) ≤ 0; decide, by show (0 : Int) < 3; decide, by show (1 : Int) ≤ 1; decide, by show (1 : Int) ≤ 1000000000000; decide⟩, putA_is (by decide) (by decide)⟩, List.pairwise_singleton ..⟩⟩
theorem aS_split (cv ev dv : AV) : okSplit (aS cv ev dv) 2 3 ∧ inSplit (aS cv ev dv) [109] :=
  ⟨⟨⟨aS_sh cv ev dv, Bool.false_ne_true⟩, ⟨by decide, by decide⟩, ⟨by decide, by decide⟩, by decide⟩, k_has 109, ltS_nil 109 []⟩
/-- the two halves -/
structure half (a b : Sh) : Prop where
  a1 : a.id = 2
  a2 : a.fr = []
  a3 : a.to = [109]
  a4 : a.frz = false
  b1 : b.id = 3
  b2 : b.fr = [109]
  b3 : b.to = []
  b4 : b.frz = false
theorem part_small {a s : Sh} {id : Int} {f t : List Nat} (h : sameSh a (saidPart s id f t)) (hs : smallS s) : smallS a := by
  obtain ⟨_, _, _, _, _, h1, h2, h3⟩ := h
  refine ⟨by rw [h3]; exact hs.b, ?_, ?_, by rw [h3]; exact hs.d⟩
  · rw [h1]
    exact Nat.lt_of_le_of_lt (List.length_filter_le ..) hs.c
  · rw [h2]
    exact Nat.lt_of_le_of_lt (List.length_filter_le ..) hs.e
section
variable {G : Heap} {k : K} {lv : AV}
theorem f55_ok {cv ev dv cv' ev' dv' : AV} (h : isHd G k lv .nils [aS cv ev dv] []) (hs : (aS cv' ev' dv').ok G) :
    FnOk Tryz.prog 55 [.ptr k 0, .agg (aS cv' ev' dv').enc, .agg [.int .i64 7, .int .i64 1, .int .i64 1, .int .i64 2, .int .i64 3, .int .i64 0, .int .i64 0, .str [], .str [], .str [], .int .i64 0, .nils, .str [109], .str [], .nils, .nils]] G fun r G' => r = .nili ∧ (∃ lv' gv' a b, isHd G' k lv' gv' [a, b] [⟨1, 1⟩] ∧ half a b) ∧ Nx k G G' := by
  refine FnOk.of_WW Tryz.func55 rfl C55ok R55ok E0 good_E0 ?_
  have hk : ∀ L, (G.ext L).get k = _ := fun L => Heap.get_ext_old h.ok h.row L
  have hlen := fun G => h.l.len G
  have hidx : ∀ n : Int, ¬ n = 1 → idx (fun s : Sh => decide (s.id = n)) [aS cv ev dv] 0 = -1 := fun n hn => by
    unfold idx
    rw [decide_eq_false (show ¬ (aS cv ev dv).id = n from fun e => hn e.symm), if_neg Bool.false_ne_true]
    rfl
  simp only [go_sem, C55, Sh.enc, aS]
  refine CL.of (f101_yes (h.ext _) (hidx 2 (by decide)) rfl) ?_
  rintro _ G' ⟨rfl, hG⟩; rw [hG]; clear hG
  simp only [go_sem]
  refine CL.of (f101_yes (h.ext _) (hidx 3 (by decide)) rfl) ?_
  rintro _ G' ⟨rfl, hG⟩; rw [hG]; clear hG
  simp only [go_sem, hk, hlen]
  refine CL.of (f102_yes (s := aS cv' ev' dv') (hs.ext _) (by show 1 < 100000; decide) (by show 1 < 100000; decide) (aS_split ..).1 (aS_split ..).2) ?_
  rintro _ M ⟨a, b, L, rfl, hM, ha, hb, sa, sb⟩
  have hMh : isHd M k lv .nils [aS cv ev dv] [] := by rw [hM]; exact (h.ext _).ext _
  have hMn : Nx k G M := by rw [hM]; exact (Nx.ext h.ok _).trans (Nx.ext (Heap.ok_ext h.ok _) _)
  have e0 := get_of_ext hM (i := 0) rfl
  have g0 := fun L => Heap.get_ext_old hMh.ok e0 L
  have sma := part_small sa (aS_small cv' ev' dv')
  have smb := part_small sb (aS_small cv' ev' dv')
  have hf : half a b := ⟨sa.1, sa.2.2.1, sa.2.2.2.1, sa.2.2.2.2.1, sb.1, sb.2.2.1, sb.2.2.2.1, sb.2.2.2.2.1⟩
  refine WW.nil ?_
  simp only [go_sem, Sh.enc, g0]
  refine CL.of (f57_only (s := aS cv' ev' dv') (hMh.ext _) rfl (by show (0 : Int) ≤ 1; decide)) ?_
  rintro _ M1 ⟨rfl, ⟨c, gv', h1⟩, n1⟩
  have qa := n1.keep (M.key 0) _ (ne_key hMh.ok hMh.row 0) (get_lit rfl)
  have qb := n1.keep (M.key 1) _ (ne_key hMh.ok hMh.row 1) (get_lit rfl)
  have ra := fun L => Heap.get_ext_old h1.ok qa L
  have ha1 := n1.sh (hMh.ext _).row (ha.ext _) sma
  have hb1 := n1.sh (hMh.ext _).row (hb.ext _) smb
  refine WW.nil ?_
  simp only [go_sem, ra]
  refine CL.of (f52_first (s := a) (h1.ext _) (ha1.ext _) sma) ?_
  rintro _ M2 ⟨rfl, ⟨lv2, h2⟩, n2⟩
  have qb2 := n2.keep (M.key 1) _ (by exact ne_key hMh.ok hMh.row 1) (Heap.get_ext_old h1.ok qb _)
  have rb := fun L => Heap.get_ext_old h2.ok qb2 L
  have hb2 := n2.sh (h1.ext _).row (hb1.ext _) smb
  refine WW.nil ?_
  simp only [go_sem, rb]
  have hst : sorted2 [a, b] := by
    show ¬ cmpS b.fr a.fr b.id a.id < 0
    rw [hf.b2, hf.a2]
    have hc : cmpT [109] [] = 1 := by
      unfold cmpT
      rw [if_neg (not_ltS_nil _), if_pos (by rintro (h | h); exact not_ltS_nil _ h; cases h)]
    unfold cmpS
    rw [hc, if_pos (by decide)]
    decide
  refine CL.of (f52_more (a := a) (s := b) (h2.ext _) (by rw [hf.a1, hf.b1]; decide) (hb2.ext _) smb hst) ?_
  rintro _ M3 ⟨rfl, ⟨lv3, h3⟩, n3⟩
  refine WW.nil ?_
  simp only [go_sem]
  rw [Heap.ext_nil]
  exact ⟨⟨lv3, gv', a, b, h3, hf⟩, ((hMn.trans ((Nx.ext hMh.ok _).trans n1)).trans ((Nx.ext h1.ok _).trans n2)).trans ((Nx.ext h2.ok _).trans n3)⟩
theorem f21_split {cv ev dv : AV} (h : isHd G k lv .nils [aS cv ev dv] []) : FnOk Tryz.prog 21 [.ptr k 0, .agg [.int .i64 7, .int .i64 1, .int .i64 1, .int .i64 2, .int .i64 3, .int .i64 0, .int .i64 0, .str [], .str [], .str [], .int .i64 0, .nils, .str [109], .str [], .nils, .nils]] G fun r G' => r = .nili ∧ (∃ lv' gv' a b, isHd G' k lv' gv' [a, b] [⟨1, 1⟩] ∧ half a b) ∧ Nx k G G' := by
  refine FnOk.of_WW Tryz.func21 rfl C21ok R21ok E0 good_E0 ?_
  have hok := h.each (aS cv ev dv) (by simp)
  have hcl : (aS cv ev dv).cells.length = 1 := rfl
  simp only [go_sem, C21]
  refine CL.of (f54_yes (s := aS cv ev dv) (h.ext _) (idx_one (decide_eq_true rfl)) rfl rfl) ?_
  rintro _ _ ⟨rfl, rfl⟩
  simp only [go_sem, Sh.enc, Sh.cop, copB, Heap.key_ext, aS]
  refine CL.of (f55_ok (cv' := zV (nilB cv) (G.key 1) 5 1) (ev' := zV (nilB ev) (G.key 2) 4 1) (dv' := zV (nilB dv) (G.key 3) 6 1) (h.ext _) (by exact Sh.cop_con hok rfl rfl rfl 1 1 [] [] false)) ?_
  rintro _ G' ⟨rfl, ⟨lv', gv', a, b, hhd, hf⟩, hnx⟩
  refine WW.nil ?_
  simp only [go_sem]
  rw [Heap.ext_nil]
  exact ⟨⟨lv', gv', a, b, hhd, hf⟩, (Nx.ext h.ok _).trans hnx⟩
theorem f6_split {cv ev dv : AV} (h : isHd G k lv .nils [aS cv ev dv] []) : FnOk Tryz.prog 6 [.ptr k 0, .agg [.int .i64 7, .int .i64 1, .int .i64 1, .int .i64 2, .int .i64 3, .int .i64 0, .int .i64 0, .str [], .str [], .str [], .int .i64 0, .nils, .str [109], .str [], .nils, .nils]] G fun r G' => r = .tup [.agg zA, .nili] ∧ (∃ lv' gv' a b, isHd G' k lv' gv' [a, b] [⟨1, 1⟩] ∧ half a b) ∧ Nx k G G' := by
  refine (f6_fine h (kind := 7) (.inr (.inr (.inr rfl))) 2 3 0 (.int .i64 0) (.str []) (.str []) (.str []) (.int .i64 0) .nils (.str [109]) (.str []) .nils .nils (n0 := 1) (n1 := 1) (gs' := [⟨1, 1⟩]) (hs' := fun l => ∃ a b, l = [a, b] ∧ half a b) fun L => (f21_split (h.ext L)).mono ?_).mono ?_
  · rintro r G' ⟨rfl, ⟨lv', gv', a, b, hh, hf⟩, hn⟩
    exact ⟨rfl, ⟨lv', gv', _, ⟨a, b, rfl, hf⟩, hh⟩, hn⟩
  · rintro r G' ⟨rfl, ⟨lv', gv', l, ⟨a, b, rfl, hf⟩, hh⟩, hn⟩
    exact ⟨rfl, ⟨lv', gv', a, b, hh, hf⟩, hn⟩
end
end Go.Proofs
