/- a shard put in the place of its number's: walked. -/
import Derived.Test.YtkhaejbkdgbjcaaGreatDoorZ20
import Derived.Test.YtkhaejbkdgbjcaaGreatDoorProg
import Derived.KernelRfl
set_option linter.all false
set_option linter.all false
set_option maxRecDepth 100000
namespace Go.Proofs
open Go Go.Ev
variable {H : Heap}

/-- what else there was is there still; nothing else was changed -/
structure Nx (k : K) (G G' : Heap) : Prop where
  keep : ∀ j b, k ≠ j → G.get j = some b → G'.get j = some b
  own : ∀ B : Heap, (∃ L, G = B.ext L) → B.nx.toNat ≤ k.toNat → ∃ L, G' = B.ext L
  le : G.nx.toNat ≤ G'.nx.toNat
theorem Nx.refl (k : K) (G : Heap) : Nx k G G := ⟨fun _ _ _ h => h, fun _ h _ => h, Nat.le_refl _⟩
theorem Nx.trans {k : K} {A B C : Heap} (h : Nx k A B) (g : Nx k B C) : Nx k A C := ⟨fun j b hj hb => g.keep j b hj (h.keep j b hj hb), fun D hD hk => g.own D (h.own D hD hk) hk, Nat.le_trans h.le g.le⟩
theorem ext_own {B G : Heap} (hB : ∃ L, G = B.ext L) (M : List Blk) : ∃ L, G.ext M = B.ext L := by
  obtain ⟨L, rfl⟩ := hB
  exact ⟨_, Heap.ext_append ..⟩
theorem Nx.set {k : K} {G : Heap} (hok : G.ok) {c : Blk} (hk : G.get k = some c) (b : Blk) (L : List Blk) : Nx k G ((G.set k b).ext L) :=
  ⟨fun j d hj hd => Heap.get_set_there hok hd hj b L, fun _ hB hl => ext_own (set_own hok hk hB hl) L, by rw [Heap.nx_ext, Heap.toNat_key]; exact Nat.le_add_right _ _⟩
theorem Nx.ext {k : K} {G : Heap} (hok : G.ok) (L : List Blk) : Nx k G (G.ext L) := ⟨fun j d _ hd => Heap.get_ext_old hok hd L, fun _ hB _ => ext_own hB L, by rw [Heap.nx_ext, Heap.toNat_key]; exact Nat.le_add_right _ _⟩
theorem Nx.arr {k : K} {G G' : Heap} (h : Nx k G G') {wr : Bool} {rows : List (List AV)} (hk : G.get k = some (.row wr 2 rows)) {e : Nat} (he : e ≠ 2) {v : AV} {xs : List (List AV)} (hA : Arr G e v xs) : Arr G' e v xs := by
  rcases hA with g | ⟨c, off, ex, cap, hv, hc, g⟩
  · exact .inl g
  · refine .inr ⟨c, off, ex, cap, hv, Nat.lt_of_lt_of_le hc h.le, fun hx => ?_⟩
    obtain ⟨r, wr', rows', h1, h2, h3⟩ := g hx
    refine ⟨r, wr', rows', h1, h.keep c _ ?_ h2, h3⟩
    rintro rfl
    rw [hk] at h2
    injection h2 with h2
    injection h2 with _ h2 _
    exact he h2.symm
theorem Nx.sh {k : K} {G G' : Heap} (h : Nx k G G') {wr : Bool} {rows : List (List AV)} (hk : G.get k = some (.row wr 2 rows)) {s : Sh} (hs : s.ok G) (hb : smallS s) : s.ok G' :=
  ⟨h.arr hk (by decide) hs.c, h.arr hk (by decide) hs.e, h.arr hk (by decide) hs.d, bareL.ok hb.b _, hs.cl, hs.el, hs.dl⟩
section
variable {G : Heap} {k : K} {lv gv : AV} {hs : List Sh} {gs : List Gn}
theorem gone_set (h : isHd G k lv gv hs gs) (b : Blk) : Arr (G.set k b) 2 gv (gs.map Gn.enc) := by
  rcases h.g with g | ⟨j, off, ex, cap, hv, hj, g⟩
  · exact .inl g
  · refine .inr ⟨j, off, ex, cap, hv, hj, fun hx => ?_⟩
    obtain ⟨r, wr', rows', h1, h2, h3⟩ := g hx
    refine ⟨r, wr', rows', h1, ?_, h3⟩
    rw [Heap.get_set, if_neg fun e => ?_]
    · exact h2
    · subst e
      have h4 := h.row
      rw [h2] at h4
      have h5 := Option.some.inj h4
      injection h5 with _ _ h5
      subst h5
      have hl := h.l
      cases gs with
      | nil => exact hx rfl
      | cons c l =>
        cases r with
        | zero =>
          have h6 := congrArg (fun z => z[0]?) h3
          simp only [List.map_cons, List.length_cons, List.drop_zero, List.take_succ_cons, List.getElem?_cons_zero, Gn.enc] at h6
          have h7 := Option.some.inj h6
          injection h7 with h7 _
          subst h7
          rcases hl with ⟨e, _⟩ | ⟨_, _, _, _, e, _⟩ <;> cases e
        | succ r => simp at h3
theorem ok_set' {s : Sh} (h : isHd G k lv gv hs gs) (hs' : s.ok G) (hb : smallS s) (b : Blk) : s.ok (G.set k b) :=
  ⟨hs'.c.set h.row (by decide), hs'.e.set h.row (by decide), hs'.d.set h.row (by decide), bareL.ok hb.b _, hs'.cl, hs'.el, hs'.dl⟩
theorem isHd.put {hs' : List Sh} (h : isHd G k lv gv hs gs) {L : List Blk} {j : Nat} (hj : L[j]? = some (.row true 8 (hs'.map Sh.enc))) (ho : ∀ s ∈ hs', s.ok G) (hsm : ∀ s ∈ hs', smallS s) (hl : hs'.length ≤ 8) (cap : Nat) (ex : Bool) :
    isHd ((G.set k (.row true 2 [[.slice (G.key j) 0 hs'.length 8 ex cap, gv]])).ext L) k (.slice (G.key j) 0 hs'.length 8 ex cap) gv hs' gs := by
  have hok := Heap.ok_ext (Heap.ok_set h.ok h.row (b := .row true 2 [[.slice (G.key j) 0 hs'.length 8 ex cap, gv]])) L
  have hjl := (List.getElem?_eq_some_iff.1 hj).1
  have hg : ((G.set k (.row true 2 [[.slice (G.key j) 0 hs'.length 8 ex cap, gv]])).ext L).get (G.key j) = some (.row true 8 (hs'.map Sh.enc)) := by rw [Heap.get_key_set hjl, hj]
  refine ⟨hok, Heap.get_set_here h.ok h.row _ L, .inr ⟨G.key j, 0, ex, cap, by rw [List.length_map], hok _ _ hg, fun _ => ⟨0, true, _, rfl, hg, ?_⟩⟩, (gone_set h _).ext L, fun s hs => (ok_set' h (ho s hs) (hsm s hs) _).ext L, hsm, hl, h.few.2⟩
  rw [List.drop_zero, List.take_length]
theorem f201_ok {H : Heap} {c : K} {wr : Bool} {s : Sh} (hk : H.get c = some (.row wr 8 [s.enc])) (o : Sh) : FnOk Tryz.prog 201 [.agg o.enc, .ptr c 0] H fun r G => r = .bool (decide (o.id = s.id)) ∧ G = H := by
  refine FnOk.assume fun hok => ?_
  refine FnOk.drop (R := fun r => r = .bool (decide (o.id = s.id))) ?_ (by rintro v rfl ρ; rw [AV.ren])
  refine FnOk.of_WW Tryz.func201 rfl C201ok R201ok E0 good_E0 ?_
  have hgo := Heap.get_ext_old hok hk
  simp only [Sh.enc] at hgo
  simp only [go_sem, C201, Sh.enc, hgo]
  exact ⟨fun h => ⟨bool_t h, _, rfl⟩, fun h => ⟨bool_f h, _, rfl⟩⟩
theorem clo97 : CloFn Tryz.prog 200 8 128 [.int .i64 0, .int .i64 0, .str [], .str [], .bool false, .nils, .nils, .nils] := ⟨⟨Tryz.f200, Tryz.func200, by kernel_rfl, by kernel_rfl⟩, rfl, by decide⟩
theorem shs_rens {l : List Sh} (h : ∀ s ∈ l, s.ok G) (top : Nat) (σ : List Nat) : (l.map Sh.enc).map (AV.rens (rho G top σ)) = l.map Sh.enc := by
  rw [List.map_map]
  exact List.map_congr_left fun s hs => (h s hs).ren top σ
/-- in the place of the only one -/
theorem f156_same {o s : Sh} (h : isHd G k lv gv [o] gs) (hid : o.id = s.id) (hs : s.ok G) (hsm : smallS s) : FnOk Tryz.prog 156 [.ptr k 0, .agg s.enc] G fun r G' => r = .tup [] ∧ (∃ lv', isHd G' k lv' gv [s] gs) ∧ Nx k G G' := by
  refine FnOk.of_WW Tryz.func156 rfl C156ok R156ok E0 good_E0 ?_
  have hk : ∀ L, (G.ext L).get k = _ := fun L => Heap.get_ext_old h.ok h.row L
  have hset := fun b (l : List Blk) (α : Type) (c' : Heap → α) => Heap.setC_here h.ok h.row b l c'
  have hset2 := fun b d (l : List Blk) (α : Type) (c' : Heap → α) => Heap.setC_set_here h.ok h.row b d l c'
  have hk2 := fun b (l : List Blk) => Heap.get_set_here h.ok h.row b l
  simp only [go_sem, C156, hk, Sh.enc]
  refine CL.of (clone_zd clo97 (h.l.ext _) (by show (2 * 1 + 192) * 128 ≤ 281474976710656; decide) (fun top σ => shs_rens (fun s hs => (h.each s hs).ext _) top σ)) ?_
  rintro _ _ ⟨rfl, rfl⟩
  simp only [go_sem, zV_pos (show 0 < 0 + 1 from Nat.zero_lt_succ 0), zB_pos (show 0 < [o.enc].length from Nat.zero_lt_succ 0)]
  refine CL.of (f199_only (q := fun o => decide (o.id = s.id)) (Heap.ok_ext h.ok _) (get_lit rfl) (fun _ _ => call201 ..) (fun top σ => by exact cap_lit (Nat.zero_lt_succ _) 201 top σ) (fun L => by exact f201_ok (s := s) (get_lit2 rfl) o) (decide_eq_true hid)) ?_
  rintro _ G' ⟨rfl, hG⟩
  rw [hG, Heap.set_ext_key _ _ _ _ (by exact Nat.lt_succ_self 1)]
  clear hG
  simp only [go_sem, hk, hset, hset2, hk2]
  have hput := fun L (hj : L[1]? = some (.row true 8 ([s].map Sh.enc))) => isHd.put (hs' := [s]) h (L := L) (j := 1) hj (fun x hx => by rw [List.mem_singleton.1 hx]; exact hs) (fun x hx => by rw [List.mem_singleton.1 hx]; exact hsm) (by show 1 ≤ 8; decide) 1 false
  refine CL.of (f152_ok (hput _ (by rfl)) (Nat.le_refl 1)) ?_
  rintro _ G' ⟨rfl, hG⟩; rw [hG]; clear hG
  simp only [go_sem]
  exact ⟨⟨_, hput _ rfl⟩, Nx.set h.ok h.row _ _⟩
end
end Go.Proofs
/- errors.As, of numbers: by its contract, as a law of memories. -/

set_option linter.all false
set_option linter.all false
set_option maxRecDepth 100000
namespace Go.Proofs
open Go Go.Ev
variable {H : Heap}

section
variable {P : Program} {φ : Phi} {w : World}
theorem cell_of_row (hw : WRel P φ H w) {k : K} {x : AV} {a : At} (hk : H.get k = some (.row true 1 [[x]])) (hφ : φ k = some a) : ∃ v, w.cell? ⟨a.b, a.o, none⟩ = some v ∧ VRel P φ x v ∧ w.frozen? ⟨a.b, a.o, none⟩ = false := by
  obtain ⟨hp, _, pre, vs, post, e, lo, hi, g1, g2, g3, g4, g5, g6⟩ := hw.blk k _ a hk hφ
  have g5 : VRels P φ [x] vs := g5
  cases g5 with
  | cons _ _ v l h1 h2 =>
    cases h2
    refine ⟨v, ?_, h1, ?_⟩
    · simp only [World.cell?, g1]
      simp [← g2]
    · simp only [World.frozen?, g1]
      have h4 := g4 rfl
      simp at g3 ⊢
      omega
/-- a call that writes a number into a cell -/
theorem FnOk.of_calls_set {f : FuncId} {args : List AV} {k : K} {x y v : AV} {y' : Value} (hk : H.get k = some (.row true 1 [[x]])) (hy : ∀ φ, VRel P φ y y') (hone : y'.oneCell' = true) (hv : ∀ φ, ∃ v', VRel P φ v v')
    (h : ∀ φ w args', VRels P φ args args'.toList → WRel P φ H w → ∃ a, φ k = some a ∧ ∀ old, w.cell? ⟨a.b, a.o, none⟩ = some old → w.frozen? ⟨a.b, a.o, none⟩ = false →
      Calls P f args' w fun e u => (∃ v', e = .returned v' ∧ VRel P φ v v') ∧ ∃ w4, Grows w w4 ∧ u = w4.setCell ⟨a.b, a.o, none⟩ y') :
    FnOk P f args H fun r G => r = v ∧ G = H.set k (.row true 1 [[y]]) := by
  intro φ w args' ha hw
  obtain ⟨a, hφ, hc⟩ := h φ w args' ha hw
  obtain ⟨old, h1, _, h2⟩ := cell_of_row hw hk hφ
  refine (hc old h1 h2).mono ?_
  rintro e u ⟨⟨v', rfl, hv'⟩, w4, hg, rfl⟩
  have hw4 := hw.grows hg.size hg.old
  obtain ⟨old4, h14, _, h24⟩ := cell_of_row hw4 hk hφ
  obtain ⟨u, hst, hwu, hE⟩ := storeCells_sound (off := 0) (vals := [y]) (vals' := [y']) (rows' := [[y]]) hw4 hk hφ (.cons _ _ _ _ (hy φ) .nil) (by intro z hz; rw [List.mem_singleton.1 hz]; exact hone) (put_rows 1 [[x]] [[y]] 0 (by intro z hz; rw [List.mem_singleton.1 hz]; rfl) (by intro z hz; rw [List.mem_singleton.1 hz]; rfl) (Nat.le_refl 1))
  have hst' : (storeCells ⟨a.b, a.o, none⟩ [y']).run P w4 = .ok () (w4.setCell ⟨a.b, a.o, none⟩ y') := by
    simp only [storeCells, Addr.add, Sem.run_bind, Nat.add_zero, if_true]
    rw [run_store P w4 _ _ _ hone, h14]
    simp [h24]
  rw [Nat.add_zero] at hst
  rw [hst] at hst'
  injection hst' with _ hu
  subst hu
  refine ⟨v, _, ⟨rfl, rfl⟩, φ, v', rfl, hv', hwu, ?_⟩
  exact ⟨hE.phi, hE.nx, Nat.le_trans hg.size hE.size, fun b hb hn => by rw [hE.keeps b (Nat.lt_of_lt_of_le hb hg.size) hn, hg.old b hb], hE.hidden, fun b hb ho => hE.own b (Nat.lt_of_lt_of_le hb hg.size) ho, hE.os.trans hg.os, hE.tape.trans hg.tape, hE.output.trans hg.output⟩
end
theorem f105_none (x : AV) : FnOk Tryz.prog 105 [.nili, x] H fun r G => r = .bool false ∧ G = H := by
  refine FnOk.of_calls fun φ w args' ha hw => ?_
  obtain ⟨v, u, rfl, h1, h2⟩ := two_args ha
  have e1 := errV_inv (e := none) h1
  obtain rfl : v = .nilIface := e1
  refine (as_nil u w).mono ?_
  rintro e w' ⟨rfl, rfl⟩
  exact ⟨⟨_, rfl, .bool _⟩, Grows.refl _⟩
end Go.Proofs
/- a shard of an epoch; what is done to a shard that is there: walked. -/

set_option linter.all false
set_option linter.all false
set_option maxRecDepth 100000
namespace Go.Proofs
open Go Go.Ev
variable {H : Heap}

section
variable {G : Heap} {k : K} {lv gv : AV} {hs : List Sh} {gs : List Gn}
theorem idx_one {α : Type} {q : α → Bool} {s : α} (h : q s = true) : idx q [s] 0 = ((0 : Nat) : Int) := by unfold idx; rw [h]; rfl
end
end Go.Proofs
/- a node's records done: freezes, thaws, refusals: walked. -/

set_option linter.all false
set_option linter.all false
set_option maxRecDepth 100000
namespace Go.Proofs
open Go Go.Ev
variable {H : Heap}

def zA : List AV := [.int .i64 0, .str [], .int .i64 0, .nils]
theorem f79_ok {kd : Int} (hk : ¬ kd = 6) (key : List Nat) (a b c d : AV) : FnOk Tryz.prog 79 [.agg [.int .i64 kd, .str key, a, b, c, d]] H fun r G => r = .str key ∧ G = H := by
  refine FnOk.drop (R := fun r => r = .str key) ?_ (by rintro v rfl ρ; rw [AV.ren])
  refine FnOk.of_WW Tryz.func79 rfl C79ok R79ok E0 good_E0 ?_
  have z1 := eq_false hk
  simp only [go_sem, C79, z1]
  exact ⟨_, rfl⟩
section
variable {G : Heap} {k : K} {lv gv : AV} {hs : List Sh} {gs : List Gn}
theorem isHd.reset (h : isHd G k lv gv hs gs) : isHd (G.set k (.row true 2 [[lv, gv]])) k lv gv hs gs := by
  have h1 := Heap.get_set_here h.ok h.row (.row true 2 [[lv, gv]]) []
  rw [Heap.ext_nil] at h1
  exact ⟨Heap.ok_set h.ok h.row, h1, h.l.set h.row (by decide), gone_set h _, fun s hs => ok_set' h (h.each s hs) (h.small s hs) _, h.small, h.few⟩
theorem evs_cell {j : K} {wr : Bool} {a : Int} {x y z v : AV} {l : List Evn} (h : Arr G 4 v (l.map Evn.enc)) (hj : G.get j = some (.row wr 4 [[.int .i64 a, x, y, z]])) (b : Blk) : Arr (G.set j b) 4 v (l.map Evn.enc) := by
  rcases h with g | ⟨c, off, ex, cap, hv, hc, g⟩
  · exact .inl g
  · refine .inr ⟨c, off, ex, cap, hv, hc, fun hx => ?_⟩
    obtain ⟨r, wr', rows', h1, h2, h3⟩ := g hx
    refine ⟨r, wr', rows', h1, ?_, h3⟩
    rw [Heap.get_set, if_neg fun e => ?_]
    · exact h2
    · subst e
      rw [h2] at hj
      have h5 := Option.some.inj hj
      injection h5 with _ _ h5
      subst h5
      cases l with
      | nil => exact hx rfl
      | cons c l =>
        cases r with
        | zero =>
          have h6 := congrArg (fun z => z[0]?) h3
          simp only [List.map_cons, List.length_cons, List.drop_zero, List.take_succ_cons, List.getElem?_cons_zero, Evn.enc] at h6
          have h7 := Option.some.inj h6
          injection h7 with h7 _
          cases h7
        | succ r => simp at h3
/-- an answer's cell is no part of it -/
theorem isHd.cell (h : isHd G k lv gv hs gs) {j : K} {wr : Bool} {a : Int} {x y z : AV} (hj : G.get j = some (.row wr 4 [[.int .i64 a, x, y, z]])) (b : Blk) : isHd (G.set j b) k lv gv hs gs := by
  refine ⟨Heap.ok_set h.ok hj, ?_, h.l.set hj (by decide), h.g.set hj (by decide), fun s hs => ?_, h.small, h.few⟩
  · rw [Heap.get_set, if_neg fun e => ?_]
    · exact h.row
    · subst e
      have h1 := h.row
      rw [hj] at h1
      cases h1
  · have ho := h.each s hs
    exact ⟨ho.c.set hj (by decide), evs_cell ho.e hj b, ho.d.set hj (by decide), bareL.ok (h.small s hs).b _, ho.cl, ho.el, ho.dl⟩
theorem ne_key {b : Blk} (hok : G.ok) (h : G.get k = some b) (i : Nat) : k ≠ G.key i := by
  rintro rfl
  have := hok _ _ h
  rw [Heap.toNat_key] at this
  omega
theorem Nx.cell {G' : Heap} (h : Nx k G G') (hok : G.ok) (hok' : G'.ok) {i : Nat} {c : Blk} (hc : G'.get (G.key i) = some c) (b : Blk) (L : List Blk) : Nx k G ((G'.set (G.key i) b).ext L) :=
  ⟨fun j d hj hd => Heap.get_set_there hok' (h.keep j d hj hd) (fun e => ne_key hok hd i e.symm) b L,
    fun B hB hl => ext_own (set_own hok' hc (h.own B hB hl) (by obtain ⟨M, rfl⟩ := hB; rw [Heap.toNat_key, Heap.nx_ext, Heap.toNat_key]; omega)) L,
    by rw [Heap.nx_ext, Heap.toNat_key]; exact Nat.le_trans h.le (Nat.le_add_right _ _)⟩
end
end Go.Proofs
/- what was given away, in order; the first record: walked. -/

set_option linter.all false
set_option linter.all false
set_option maxRecDepth 100000
namespace Go.Proofs
open Go Go.Ev
variable {H : Heap}

theorem f233_one {v : AV} {n : Nat} (hn : n ≤ 1) (g : AV) : FnOk Tryz.prog 233 [v, .int .i64 0, .int .i64 n, g] H fun r G => r = .tup [] ∧ G = H := by
  refine FnOk.drop (R := fun r => r = .tup []) ?_ (by rintro v rfl ρ; simp only [AV.ren, AV.rens])
  refine FnOk.of_WW Tryz.func233 rfl C233ok R233ok E0 good_E0 ?_
  have hw01 : IntKind.i64.wrap (0 + 1) = 1 := rfl
  have hc : ¬ (1 : Int) < (n : Int) := by omega
  simp only [go_sem, C233, hw01]
  refine LL.st good_E0 (fun _ : Nat => 0) (fun _ => True) (fun _ => [((.i .z), .int .i64 n), ((.i (.o (.o .z))), .int .i64 1)]) (fun _ => []) ?_ 0 (σ := []) (Wk.of rfl (by decide) (by simp only [go_sem]; first | done | rfl | trace_state) (by simp only [go_sem])) trivial
  rintro _ _
  simp only [go_sem, hc]
  exact ⟨_, rfl⟩
theorem f242_ok {n : Nat} (hn : n ≤ 1) : FnOk Tryz.prog 242 [.int .u64 n] H fun r G => r = .int .i64 n ∧ G = H := by
  refine FnOk.drop (R := fun r => r = .int .i64 n) ?_ (by rintro v rfl ρ; rw [AV.ren])
  refine FnOk.of_WW Tryz.func242 rfl C242ok R242ok E0 good_E0 ?_
  have h : n = 0 ∨ n = 1 := by omega
  have hw0 : IntKind.i64.wrap (0 + 0) = 0 := rfl
  have hw1 : IntKind.i64.wrap (0 + 1) = 1 := rfl
  have u0 : IntKind.u8.wrap 0 = ((0 : Nat) : Int) := rfl
  have u1 : IntKind.u8.wrap 1 = ((1 : Nat) : Int) := rfl
  have i0 : IntKind.i64.wrap 0 = 0 := rfl
  have i1 : IntKind.i64.wrap 1 = 1 := rfl
  rcases h with rfl | rfl
  · simp only [go_sem, C242, hw0, hw1, u0, u1, i0, i1, Int.ofNat_zero, Int.natCast_zero, Int.ofNat_one, Int.natCast_one]
    exact ⟨_, rfl⟩
  · simp only [go_sem, C242, hw0, hw1, u0, u1, i0, i1, Int.ofNat_zero, Int.natCast_zero, Int.ofNat_one, Int.natCast_one]
    exact ⟨_, rfl⟩
theorem f197_ok {n : Nat} (hn : n ≤ 1) : FnOk Tryz.prog 197 [.int .u64 n] H fun r G => r = .int .i64 n ∧ G = H := by
  refine FnOk.drop (R := fun r => r = .int .i64 n) ?_ (by rintro v rfl ρ; rw [AV.ren])
  refine FnOk.of_WW Tryz.func197 rfl C197ok R197ok E0 good_E0 ?_
  simp only [go_sem, C197]
  refine CL.of (f242_ok hn) ?_
  rintro _ G' ⟨rfl, hG⟩; rw [hG]; clear hG
  simp only [go_sem]
  exact ⟨_, rfl⟩
theorem f196_ok {v : AV} (hv : ∀ top σ, AV.ren (rho H top σ) v = v) {n : Nat} (hn : n ≤ 1) (f : FuncId) : FnOk Tryz.prog 196 [v, .int .i64 0, .int .i64 n, .int .i64 n, .fn (.func f) [] []] H fun r G => r = .tup [] ∧ G = H := by
  refine FnOk.drop (R := fun r => r = .tup []) ?_ (by rintro v rfl ρ; simp only [AV.ren, AV.rens])
  refine FnOk.of_WW Tryz.func196 rfl C196ok R196ok E0 good_E0 ?_
  have hw : IntKind.i64.wrap ((n : Int) - 0) = n := by rw [Int.sub_zero]; exact wrap_i64 (by omega) (by omega)
  have hc : (n : Int) ≤ 12 := by omega
  simp only [go_sem, C196]
  refine LL.st good_E0 (fun _ : Nat => 0) (fun _ => True) (fun _ => [(.z, v), ((.o .z), .int .i64 0), ((.i .z), .int .i64 n), ((.i (.o .z)), .fn (.func f) [] [])]) (fun _ => []) ?_ 0 (σ := []) (Wk.of rfl (by decide) (by simp only [go_sem, hv]; first | done | rfl | trace_state) (by simp only [go_sem])) trivial
  rintro _ _
  simp only [go_sem, hw, hc]
  refine CL.of (f233_one hn _) ?_
  rintro _ G' ⟨rfl, hG⟩; rw [hG]; clear hG
  simp only [go_sem]
  exact ⟨_, rfl⟩
theorem f153_ok {v : AV} {gs : List Gn} (hA : Arr H 2 v (gs.map Gn.enc)) (hn : gs.length ≤ 1) (f : FuncId) : FnOk Tryz.prog 153 [v, .fn (.func f) [] []] H fun r G => r = .tup [] ∧ G = H := by
  refine FnOk.drop (R := fun r => r = .tup []) ?_ (by rintro v rfl ρ; simp only [AV.ren, AV.rens])
  refine FnOk.of_WW Tryz.func153 rfl C153ok R153ok E0 good_E0 ?_
  have hlen := fun G => hA.len G
  simp only [List.length_map] at hlen
  have hw : IntKind.u64.wrap (gs.length : Int) = gs.length := by
    have h : gs.length = 0 ∨ gs.length = 1 := by omega
    rcases h with h | h <;> rw [h] <;> rfl
  simp only [go_sem, C153, hlen, hw]
  refine CL.of (f197_ok hn) ?_
  rintro _ G' ⟨rfl, hG⟩; rw [hG]; clear hG
  simp only [go_sem]
  refine CL.of (f196_ok (fun top σ => (hA.ext _).ren top σ) hn f) ?_
  rintro _ G' ⟨rfl, hG⟩; rw [hG]; clear hG
  simp only [go_sem]
  exact ⟨_, rfl⟩
theorem clo42 : CloFn Tryz.prog 116 2 16 [.int .i64 0, .int .i64 0] := ⟨⟨Tryz.f116, Tryz.func116, by kernel_rfl, by kernel_rfl⟩, rfl, by decide⟩
theorem f151_ok {s : Sh} (h : s.ok H) : FnOk Tryz.prog 151 [.agg s.enc] H fun r G => r = .bool (decide (¬ isSh s)) ∧ G = H := by
  refine FnOk.drop (R := fun r => r = .bool (decide (¬ isSh s))) ?_ (by rintro v rfl ρ; rw [AV.ren])
  refine FnOk.of_WW Tryz.func151 rfl C151ok R151ok E0 good_E0 ?_
  simp only [go_sem, C151, Sh.enc]
  refine CL.bool (f24_ok (h.ext _)) (fun g => ?_) (fun g => ?_)
  · simp only [go_sem]
    exact ⟨bool_f fun h => h g, _, rfl⟩
  · simp only [go_sem]
    exact ⟨bool_t g, _, rfl⟩
theorem f150_one {s : Sh} (h : s.ok H) (hs : isSh s) {v : AV} (hA : Arr H 8 v [s.enc]) : FnOk Tryz.prog 150 [v, .fn (.func 151) [] []] H fun r G => r = .bool false ∧ G = H := by
  refine FnOk.drop (R := fun r => r = .bool false) ?_ (by rintro v rfl ρ; rw [AV.ren])
  refine FnOk.of_WW Tryz.func150 rfl C150ok R150ok E0 good_E0 ?_
  simp only [go_sem, C150]
  have h64 := f94_ok (l := [s]) (caps := []) (q := fun s => decide (¬ isSh s)) hA (by show 1 ≤ 100000; decide) (fun _ _ => call151 ..) (fun _ _ => by simp only [AV.ren, AV.rens]) (fun x hx L => by rw [List.mem_singleton.1 hx]; exact f151_ok (h.ext L))
  have hx : idx (fun s => decide (¬ isSh s)) [s] 0 = -1 := by unfold idx; rw [decide_eq_false (fun g => g hs), if_neg Bool.false_ne_true]; rfl
  rw [hx, ← Heap.ext_nil H] at h64
  refine CL.of h64 ?_
  rintro _ G' ⟨rfl, hG⟩; rw [hG]; clear hG
  simp only [go_sem]
  exact ⟨_, rfl⟩
end Go.Proofs
/- a node with one shard; records of a shard's number and epoch: walked. -/

set_option linter.all false
set_option linter.all false
set_option maxRecDepth 100000
namespace Go.Proofs
open Go Go.Ev
variable {H : Heap}

section
variable {G : Heap} {k : K}
end
theorem f26_ok : FnOk Tryz.prog 26 [] H fun r G => r = .ptr (H.key 0) 0 ∧ G = H.ext [.row true 2 [[.nils, .nils]]] := by
  refine FnOk.of_WW Tryz.func26 rfl C26ok R26ok E0 good_E0 ?_
  simp only [go_sem, C26]
end Go.Proofs
/- a node of one shard that has nothing in it: what freezes, thaws, drops, requests do. -/

set_option linter.all false
set_option linter.all false
set_option maxRecDepth 100000
namespace Go.Proofs
open Go Go.Ev
variable {H : Heap}

/-- the shard -/
def oS (e : Int) (z : Bool) (cv ev dv : AV) : Sh := ⟨1, e, [], [], z, [], [], [], cv, ev, dv⟩
/-- a node with that shard alone -/
def Hd1 (G : Heap) (k : K) (e : Int) (z : Bool) : Prop := ∃ lv gv cv ev dv, isHd G k lv gv [oS e z cv ev dv] []
theorem Hd1.ok {G : Heap} {k : K} {e : Int} {z : Bool} (h : Hd1 G k e z) : G.ok := by obtain ⟨_, _, _, _, _, h⟩ := h; exact h.ok
theorem Hd1.ext {G : Heap} {k : K} {e : Int} {z : Bool} (h : Hd1 G k e z) (L : List Blk) : Hd1 (G.ext L) k e z := by obtain ⟨a, b, c, d, f, h⟩ := h; exact ⟨a, b, c, d, f, h.ext L⟩
section
variable {G : Heap} {k : K} {e : Int}
end
end Go.Proofs
/- CutTells: walked. -/

set_option linter.all false
set_option linter.all false
set_option maxRecDepth 100000
namespace Go.Proofs
open Go Go.Ev
variable {H : Heap}

theorem sameSh.symm {a b : Sh} (h : sameSh a b) : sameSh b a := ⟨h.1.symm, h.2.1.symm, h.2.2.1.symm, h.2.2.2.1.symm, h.2.2.2.2.1.symm, h.2.2.2.2.2.1.symm, h.2.2.2.2.2.2.1.symm, h.2.2.2.2.2.2.2.symm⟩
theorem sameSh.trans {a b c : Sh} (h : sameSh a b) (g : sameSh b c) : sameSh a c := ⟨h.1.trans g.1, h.2.1.trans g.2.1, h.2.2.1.trans g.2.2.1, h.2.2.2.1.trans g.2.2.2.1, h.2.2.2.2.1.trans g.2.2.2.2.1, h.2.2.2.2.2.1.trans g.2.2.2.2.2.1, h.2.2.2.2.2.2.1.trans g.2.2.2.2.2.2.1, h.2.2.2.2.2.2.2.trans g.2.2.2.2.2.2.2⟩
theorem sameSh.refl (a : Sh) : sameSh a a := ⟨rfl, rfl, rfl, rfl, rfl, rfl, rfl, rfl⟩
end Go.Proofs
/- CutOnce: walked. -/


set_option linter.all false
set_option linter.all false
set_option maxRecDepth 100000
namespace Go.Proofs
open Go Go.Ev
variable {H : Heap}

/-- a state of the loop: the shard's lists lie at these places -/
def St4 (H : Heap) (k : Nat) (q : Nat × Sh) : Prop := q.1 ≤ k ∧ AtI q.1 q.2 ∧ q.2.cv = outV (H.key 1) 5 q.2.cells.length ∧ q.2.ev = outV (H.key 2) 4 q.2.evs.length ∧ q.2.dv = outV (H.key 3) 6 q.2.done.length
theorem AtI.dok {i : Nat} {s : Sh} (h : AtI i s) (H : Heap) : allOk H s.done := by
  rw [h.done]
  split
  · exact fun d hd => absurd hd List.not_mem_nil
  · exact fun d hd => by rw [List.mem_singleton.1 hd]; exact putA_ok H _
theorem St4.ok {k : Nat} (hk : k ≤ 20) {q : Nat × Sh} (h : St4 H k q) {L : List Blk} (h1 : L[1]? = some (outB 5 (q.2.cells.map Cell.enc))) (h2 : L[2]? = some (outB 4 (q.2.evs.map Evn.enc))) (h3 : L[3]? = some (outB 6 (q.2.done.map Dn.enc))) : q.2.ok (H.ext L) where
  c := by rw [h.2.2.1]; exact arr_outV h1 (List.length_map ..)
  e := by rw [h.2.2.2.1]; exact arr_outV h2 (List.length_map ..)
  d := by rw [h.2.2.2.2]; exact arr_outV h3 (List.length_map ..)
  dok := h.2.1.dok _
  cl := by have := h.2.1.clen; omega
  el := by have := h.2.1.len; have := h.1; omega
  dl := by have := h.2.1.dlen; omega
theorem St4.next {k : Nat} {q : Nat × Sh} (h : St4 H k q) (hk : k ≤ 20) (hlt : q.1 < k) : St4 H k (q.1 + 1, askS q.2 [99] [118] 1 ((q.1 : Int) + 1) (H.key 1) (H.key 2) (H.key 3)) := by
  refine ⟨hlt, h.2.1.next (by omega) _ _ _, ?_, rfl, rfl⟩
  show outV _ 5 (refW _ _).length = outV _ 5 (keepC _ _).length
  rw [keepC_len]
theorem askS_ok {s : Sh} {G : Heap} {L : List Blk} {i j q : Nat} {k v : List Nat} {ses id : Int} (hc : (refW s.cells (nextC s.cells k v false)).length < 10000) (he : s.evs.length < 10000) (hd : (withD s.done ⟨ses, id, putA ((getL s.cells k).1.ver + 1)⟩).length < 10000) (hdok : allOk G s.done) (h1 : L[i]? = some (outB 5 ((askS s k v ses id .z .z .z).cells.map Cell.enc))) (h2 : L[j]? = some (outB 4 ((askS s k v ses id .z .z .z).evs.map Evn.enc))) (h3 : L[q]? = some (outB 6 ((askS s k v ses id .z .z .z).done.map Dn.enc))) : (askS s k v ses id (G.key i) (G.key j) (G.key q)).ok (G.ext L) where
  c := arr_outV h1 (by rw [List.length_map]; exact keepC_len _ _)
  e := arr_outV h2 (List.length_map ..)
  d := arr_outV h3 (List.length_map ..)
  dok := (withD_ok hdok (putA_ok G _)).ext L
  cl := by show (keepC _ _).length < _; rw [keepC_len]; omega
  el := by show (List.drop _ _).length < _; rw [List.length_drop, List.length_append]; show s.evs.length + 1 - _ < _; omega
  dl := by show (withD _ _).length < _; omega
end Go.Proofs
/- a request that puts a key, at a node of one shard that has nothing in it: walked. -/


set_option linter.all false
set_option linter.all false
set_option maxRecDepth 100000
namespace Go.Proofs
open Go Go.Ev
variable {H : Heap}

theorem get_of_ext {M : Heap} {bl L : List Blk} (hM : M = (H.ext bl).ext L) {i : Nat} {x : Blk} (h : bl[i]? = some x) : M.get (H.key i) = some x := by rw [hM]; exact get_lit2 h
theorem set_of_ext {M : Heap} {bl L : List Blk} (hM : M = (H.ext bl).ext L) {i : Nat} (h : i < bl.length) (b : Blk) (l : List Blk) : ∃ M2, (M.set (H.key i) b).ext l = H.ext M2 := by
  rw [hM, Heap.ext_append, Heap.set_ext_key _ _ _ _ (by rw [List.length_append]; omega), Heap.ext_append]
  exact ⟨_, rfl⟩
section
variable {G : Heap} {k : K} {lv : AV}
end
end Go.Proofs
/- a shard behind so many puts. -/

set_option linter.all false
set_option linter.all false
set_option maxRecDepth 100000
namespace Go.Proofs
open Go Go.Ev
variable {H : Heap}

theorem withL_leng (c : Cell) : ∀ l : List Cell, (withL l c).length ≤ l.length + 1
  | [] => Nat.le_refl _
  | d :: l => by
    unfold withL
    have := withL_leng c l
    split
    · simp only [List.length_cons]; omega
    · split <;> simp only [List.length_cons] <;> omega
/-- puts by whatever keys, by one session -/
structure PutI (e : Int) (z : Bool) (i : Nat) (s : Sh) : Prop where
  hd : s.id = 1 ∧ s.ep = e ∧ isSpan s.fr s.to ∧ (∀ c ∈ s.cells, has s.fr s.to c.key) ∧ s.frz = z
  hist : isHist s.evs s.cells
  len : s.evs.length = i
  vers : ∀ k, (getL s.cells k).1.ver ≤ i
  cl : s.cells.length ≤ i
  done : (i = 0 ∧ s.done = []) ∨ ∃ n : Int, 0 ≤ n ∧ n ≤ i ∧ 0 < i ∧ s.done = [⟨0, i, putA n⟩]
  ev0 : i = 0 → s.ev = .nils
section
variable {e : Int} {z : Bool} {i : Nat} {s : Sh}
theorem PutI.bare (h : PutI e z i s) : bareL s.done := by
  rcases h.done with ⟨_, hd⟩ | ⟨n, _, _, _, hd⟩
  · rw [hd]; exact fun d hd => absurd hd List.not_mem_nil
  · rw [hd]; exact fun d hd => by rw [List.mem_singleton.1 hd]; exact ⟨rfl, rfl⟩
theorem PutI.dl (h : PutI e z i s) : s.done.length ≤ 1 := by
  rcases h.done with ⟨_, hd⟩ | ⟨n, _, _, _, hd⟩ <;> rw [hd] <;> simp
theorem PutI.small (h : PutI e z i s) (hi : i ≤ 20) : smallS s := ⟨h.bare, by have := h.cl; omega, by have := h.len; omega, by have := h.dl; omega⟩
theorem PutI.up (h : PutI e z i s) : upD s.done := by
  rcases h.done with ⟨_, hd⟩ | ⟨n, _, _, _, hd⟩ <;> rw [hd]
  · exact List.Pairwise.nil
  · exact List.pairwise_singleton ..
theorem PutI.stands (h : PutI e z i s) : (stands s.done 0 ((i : Int) + 1)).2 = 0 := by
  rcases h.done with ⟨_, hd⟩ | ⟨n, _, _, _, hd⟩ <;> rw [hd]
  · rfl
  · show (if (i : Int) < (i : Int) + 1 then ((zeroA, 0) : An × Int) else _).2 = 0
    rw [if_pos (by omega)]
theorem PutI.sh (h : PutI e z i s) (hi : i ≤ 20) (h1 : 1 ≤ e) (h2 : e ≤ 1000000) : isSh s := by
  obtain ⟨e1, e2, e3, e4, e5⟩ := h.hd
  refine ⟨⟨by omega, by omega, by omega, by omega⟩, e3, e4, by have := h.len; omega, h.hist, ?_⟩
  · rcases h.done with ⟨_, hd⟩ | ⟨n, g1, g2, g3, hd⟩ <;> rw [hd]
    · exact done_iff.2 ⟨fun c hc => absurd hc List.not_mem_nil, List.Pairwise.nil⟩
    · refine done_iff.2 ⟨fun c hc => ?_, List.pairwise_singleton ..⟩
      rw [List.mem_singleton.1 hc]
      exact ⟨⟨by show (0 : Int) ≤ 0; decide, by show (0 : Int) < 3; decide, by show (1 : Int) ≤ (i : Int); omega, by show (i : Int) ≤ 1000000000000; omega⟩, putA_is g1 (by omega)⟩
theorem PutI.next (h : PutI e z i s) (hi : i < 20) {k : List Nat} (hk : has s.fr s.to k) (k0 k1 k2 : K) : PutI e z (i + 1) (askS s k [118] 0 ((i : Int) + 1) k0 k1 k2) := by
  have hver := h.vers k
  obtain ⟨-, hv0, -, -, -⟩ := cell_of h.hist k
  have hlen : (s.evs ++ [nextE s.cells k [118] false]).length - 24 = 0 := by rw [List.length_append, h.len]; show i + 1 - 24 = 0; omega
  have hcs : (askS s k [118] 0 ((i : Int) + 1) k0 k1 k2).cells = withL s.cells (nextC s.cells k [118] false) := by
    show keepC ((s.evs ++ [nextE s.cells k [118] false]).take ((s.evs ++ [nextE s.cells k [118] false]).length - 24)) (refW s.cells (nextC s.cells k [118] false)) = _
    rw [hlen, List.take_zero, keepC_nil, refW_eq h.hist.1]
  refine ⟨⟨h.hd.1, h.hd.2.1, h.hd.2.2.1, fun c hc => by rw [hcs] at hc; exact (withL_mem hc).elim (fun e => by rw [e]; exact hk) (h.hd.2.2.2.1 c), h.hd.2.2.2.2⟩, askS_hist h.hist hk.2.1 (by decide) (by omega) .., ?_, ?_, ?_, ?_, fun h0 => absurd h0 (Nat.succ_ne_zero _)⟩
  · show ((s.evs ++ [nextE s.cells k [118] false]).drop ((s.evs ++ [nextE s.cells k [118] false]).length - 24)).length = _
    rw [hlen, List.drop_zero, List.length_append, h.len]
    rfl
  · intro q
    rw [hcs]
    by_cases hq : q = (nextC s.cells k [118] false).key
    · rw [hq, getL_withL_self]
      show (getL s.cells k).1.ver + 1 ≤ ((i + 1 : Nat) : Int)
      omega
    · rw [getL_withL_other hq]
      have := h.vers q
      omega
  · rw [hcs]
    have := withL_leng (nextC s.cells k [118] false) s.cells
    have := h.cl
    omega
  · refine .inr ⟨(getL s.cells k).1.ver + 1, by omega, by omega, Nat.succ_pos _, ?_⟩
    show withD s.done ⟨0, (i : Int) + 1, putA ((getL s.cells k).1.ver + 1)⟩ = _
    rcases h.done with ⟨h0, hd⟩ | ⟨n, _, _, _, hd⟩ <;> rw [hd]
    · rfl
    · rw [withD_one 0 (show (i : Int) ≤ (i : Int) + 1 by omega)]
      rfl
theorem PutI.cop (h : PutI e z i s) (k0 k1 k2 : K) : PutI e z i (s.cop k0 k1 k2) := ⟨h.hd, h.hist, h.len, h.vers, h.cl, h.done, fun h0 => by
  show zV (nilB s.ev) k1 4 s.evs.length = .nils
  rw [h.ev0 h0, h.len, h0]
  rfl⟩
theorem PutI.evV (h : PutI e z i s) (k0 k1 k2 : K) : (s.cop k0 k1 k2).ev = outV k1 4 s.evs.length := by
  show zV (nilB s.ev) k1 4 s.evs.length = outV k1 4 s.evs.length
  have hl := h.len
  rcases Nat.eq_zero_or_pos i with h0 | h0
  · rw [h.ev0 h0, hl, h0]
    rfl
  · obtain ⟨m, hm⟩ : ∃ m, s.evs.length = m + 1 := ⟨i - 1, by omega⟩
    rw [hm]
    rfl
end
end Go.Proofs
/- a put asked of a node of one shard: walked. -/

set_option linter.all false
set_option linter.all false
set_option maxRecDepth 100000
namespace Go.Proofs
open Go Go.Ev
variable {H : Heap}

section
variable {G : Heap} {k : K} {lv gv : AV} {gs : List Gn} {e : Int} {i : Nat} {s : Sh}
theorem PutI.find (hP : PutI e false i s) {key : List Nat} (hk : has s.fr s.to key) : findQ key s = true := by
  unfold findQ
  rw [hP.hd.2.2.2.2, if_neg Bool.false_ne_true]
  exact decide_eq_true hk
end
end Go.Proofs
/- The laid-out code of the functions that are walked. -/

set_option linter.all false
set_option maxRecDepth 100000
namespace Go.Proofs
open Go Go.Ev K
@[go_sem] theorem call13 (a H) : callC Tryz.prog 13 a H = .call 13 a := callC_ok (by kernel_rfl) a H
noncomputable def C14 := mkC Tryz.prog Tryz.f14 7
theorem C14ok : CCok Tryz.prog Tryz.f14 7 C14 := mkC_ok _
@[go_sem] theorem call14 (a H) : callC Tryz.prog 14 a H = .call 14 a := callC_ok (by kernel_rfl) a H
theorem R14ok : resKs Tryz.prog Tryz.f14.results.toList = some [RK.tmp z.i] := by kernel_rfl
noncomputable def C84 := mkC Tryz.prog Tryz.f84 33
theorem C84ok : CCok Tryz.prog Tryz.f84 33 C84 := mkC_ok _
@[go_sem] theorem call84 (a H) : callC Tryz.prog 84 a H = .call 84 a := callC_ok (by kernel_rfl) a H
theorem R84ok : resKs Tryz.prog Tryz.f84.results.toList = some [] := by kernel_rfl
noncomputable def C85 := mkC Tryz.prog Tryz.f85 9
theorem C85ok : CCok Tryz.prog Tryz.f85 9 C85 := mkC_ok _
@[go_sem] theorem call85 (a H) : callC Tryz.prog 85 a H = .call 85 a := callC_ok (by kernel_rfl) a H
theorem R85ok : resKs Tryz.prog Tryz.f85.results.toList = some [RK.cell z.i true 24] := by kernel_rfl
noncomputable def C93 := mkC Tryz.prog Tryz.f93 7
theorem C93ok : CCok Tryz.prog Tryz.f93 7 C93 := mkC_ok _
@[go_sem] theorem call93 (a H) : callC Tryz.prog 93 a H = .call 93 a := callC_ok (by kernel_rfl) a H
theorem R93ok : resKs Tryz.prog Tryz.f93.results.toList = some [RK.tmp z.i] := by kernel_rfl
noncomputable def C126 := mkC Tryz.prog Tryz.f126 12
theorem C126ok : CCok Tryz.prog Tryz.f126 12 C126 := mkC_ok _
@[go_sem] theorem call126 (a H) : callC Tryz.prog 126 a H = .call 126 a := callC_ok (by kernel_rfl) a H
theorem R126ok : resKs Tryz.prog Tryz.f126.results.toList = some [RK.tmp z.i] := by kernel_rfl
noncomputable def C129 := mkC Tryz.prog Tryz.f129 35
theorem C129ok : CCok Tryz.prog Tryz.f129 35 C129 := mkC_ok _
@[go_sem] theorem call129 (a H) : callC Tryz.prog 129 a H = .call 129 a := callC_ok (by kernel_rfl) a H
theorem R129ok : resKs Tryz.prog Tryz.f129.results.toList = some [RK.tmp z.o.i] := by kernel_rfl
noncomputable def C65 := mkC Tryz.prog Tryz.f65 23
theorem C65ok : CCok Tryz.prog Tryz.f65 23 C65 := mkC_ok _
@[go_sem] theorem call65 (a H) : callC Tryz.prog 65 a H = .call 65 a := callC_ok (by kernel_rfl) a H
theorem R65ok : resKs Tryz.prog Tryz.f65.results.toList = some [RK.tmp z.o.i] := by kernel_rfl
noncomputable def C28 := mkC Tryz.prog Tryz.f28 64
theorem C28ok : CCok Tryz.prog Tryz.f28 64 C28 := mkC_ok _
@[go_sem] theorem call28 (a H) : callC Tryz.prog 28 a H = .call 28 a := callC_ok (by kernel_rfl) a H
theorem R28ok : resKs Tryz.prog Tryz.f28.results.toList = some [RK.cell z.o.i true 4, RK.tmp z.i.o] := by kernel_rfl
noncomputable def C80 := mkC Tryz.prog Tryz.f80 17
theorem C80ok : CCok Tryz.prog Tryz.f80 17 C80 := mkC_ok _
@[go_sem] theorem call80 (a H) : callC Tryz.prog 80 a H = .call 80 a := callC_ok (by kernel_rfl) a H
theorem R80ok : resKs Tryz.prog Tryz.f80.results.toList = some [] := by kernel_rfl
end Go.Proofs
/- A node's disk, journal: walked. -/



set_option linter.all false
set_option maxRecDepth 100000
namespace Go.Proofs
open Go Go.Ev
variable {H : Heap}
section
variable {k : K} {wr : Bool}
theorem f14_ok {a b c d e f g h : AV} (hk : H.get k = some (.row wr 8 [[a, b, c, d, e, f, g, h]])) : FnOk Tryz.prog 14 [.ptr k 0] H fun r G => r = d ∧ G = H := by
  refine FnOk.assume fun hok => ?_
  have hk' := fun L => Heap.get_ext_old hok hk L
  refine FnOk.of_WW Tryz.func14 rfl C14ok R14ok E0 good_E0 ?_
  simp only [go_sem, C14, hk']
  rfl
/-- bytes put behind all -/
theorem f126_ok {n : Nat} (hn : n ≤ 200000) : FnOk Tryz.prog 126 [.int .i64 n] H fun r G => r = .nili ∧ G = H := by
  refine FnOk.of_WW Tryz.func126 rfl C126ok R126ok E0 good_E0 ?_
  have h1 : (n : Int) ≤ 200000 := by omega
  simp only [go_sem, C126, h1]
  rfl
theorem f129_ok {b s : List Nat} {n : Nat} (hk : H.get k = some (.row true 2 [[.str b, .int .i64 n]])) (hl : b.length + s.length ≤ 200000) (hn : n ≤ b.length) : FnOk Tryz.prog 129 [.ptr k 0, .str s] H fun r G => r = .nili ∧ G = H.set k (.row true 2 [[.str (b ++ s), .int .i64 ((n + s.length : Nat) : Int)]]) := by
  refine FnOk.assume fun hok => ?_
  have hk' := fun L => Heap.get_ext_old hok hk L
  have hset := fun b (l : List Blk) (α : Type) (c' : Heap → α) => Heap.setC_here hok hk b l c'
  have hget := fun b L => Heap.get_set_here hok hk b L
  have hset2 := fun b d (l : List Blk) (α : Type) (c' : Heap → α) => Heap.setC_set_here (α := α) hok hk b d l c'
  have hw : IntKind.i64.wrap ((b.length : Int) + (s.length : Int)) = ((b.length + s.length : Nat) : Int) := by rw [wrap_i64 (by omega) (by omega)]; omega
  have hw2 : IntKind.i64.wrap ((n : Int) + (s.length : Int)) = ((n + s.length : Nat) : Int) := by rw [wrap_i64 (by omega) (by omega)]; omega
  refine FnOk.of_WW Tryz.func129 rfl C129ok R129ok E0 good_E0 ?_
  simp only [go_sem, C129, hk', hset, hw]
  refine CL.of (f126_ok hl) ?_
  rintro _ G' ⟨rfl, hG⟩; rw [hG]; clear hG
  simp only [go_sem, hk', hset, hget, hset2, hw2]
  exact ⟨by omega, rfl⟩
end
end Go.Proofs
/- copied, as a known answer; all shards of a record looked at. -/


set_option linter.all false
set_option maxRecDepth 100000
namespace Go.Proofs
open Go Go.Ev
variable {H : Heap}
open Classical in
/-- copied, wherever a shard is given -/
noncomputable def ECq : FuncId → List AV → Heap → RC := fun f args H =>
  if h : f = 50 ∧ ∃ s : Sh, args = [.agg s.enc] ∧ s.ok H ∧ smallS s then .ok (.agg (h.2.choose.cop (H.key 0) (H.key 1) (H.key 2)).enc) (H.ext (copB h.2.choose)) else .fail
theorem good_ECq : Ev.Good Tryz.prog ECq := by
  intro f args H r G he φ w args' ha hw
  refine (?_ : FnOk Tryz.prog f args H fun v' G' => v' = r ∧ G' = G).one φ w args' ha hw
  unfold ECq at he
  split at he
  · rename_i h
    obtain ⟨rfl, hs⟩ := id h
    obtain ⟨e1, e2, e3⟩ := h.2.choose_spec
    cases he
    generalize h.2.choose = t at e1 e2 e3
    rw [e1]
    exact f50_ok e2 e3
  · cases he
theorem ecq {s : Sh} (h : s.ok H) (hsm : smallS s) : ECq 50 [.agg [.int .i64 s.id, .int .i64 s.ep, .str s.fr, .str s.to, .bool s.frz, s.cv, s.ev, s.dv]] H = .ok (.agg (s.cop (H.key 0) (H.key 1) (H.key 2)).enc) (H.ext (copB s)) := by
  have hx : 50 = 50 ∧ ∃ t : Sh, [AV.agg [.int .i64 s.id, .int .i64 s.ep, .str s.fr, .str s.to, .bool s.frz, s.cv, s.ev, s.dv]] = [.agg t.enc] ∧ t.ok H ∧ smallS t := ⟨rfl, s, rfl, h, hsm⟩
  unfold ECq
  rw [dif_pos hx]
  obtain ⟨e1, e2, e3⟩ := hx.2.choose_spec
  generalize hx.2.choose = t at e1 e2 e3
  obtain ⟨id, ep, fr, to, frz, cells, evs, done, cv, ev, dv⟩ := t
  simp only [Sh.enc, List.cons.injEq, AV.agg.injEq, AV.int.injEq, AV.str.injEq, AV.bool.injEq, true_and, and_true] at e1
  obtain ⟨rfl, rfl, rfl, rfl, rfl, rfl, rfl, rfl⟩ := e1
  have u1 := e2.c.uniq h.c (by decide)
  have u2 := e2.e.uniq h.e (by decide)
  have u3 := e2.d.uniq h.d (by decide)
  have l1 := congrArg List.length u1
  have l2 := congrArg List.length u2
  have l3 := congrArg List.length u3
  simp only [List.length_map] at l1 l2 l3 u1 u2 u3
  simp only [Sh.cop, Sh.enc, copB, u1, u2, u3, l1, l2, l3]
end Go.Proofs
/- the record of all there is, of one shard, whatever it holds: walked. -/

set_option linter.all false
set_option maxRecDepth 100000
namespace Go.Proofs
open Go Go.Ev
variable {H : Heap}
/-- a shard whose lists lie elsewhere -/
def Sh.at (s : Sh) (cv ev dv : AV) : Sh := ⟨s.id, s.ep, s.fr, s.to, s.frz, s.cells, s.evs, s.done, cv, ev, dv⟩
section
variable {G : Heap} {k : K}
theorem isHd.putN {lv gv : AV} {hs hs' : List Sh} {gs : List Gn} (h : isHd G k lv gv hs gs) {L : List Blk} {j : Nat} (hj : L[j]? = some (.row true 8 (hs'.map Sh.enc))) (cap : Nat) (ex : Bool)
    (ho : ∀ s ∈ hs', s.ok ((G.set k (.row true 2 [[.slice (G.key j) 0 hs'.length 8 ex cap, gv]])).ext L)) (hsm : ∀ s ∈ hs', smallS s) (hl : hs'.length ≤ 8) :
    isHd ((G.set k (.row true 2 [[.slice (G.key j) 0 hs'.length 8 ex cap, gv]])).ext L) k (.slice (G.key j) 0 hs'.length 8 ex cap) gv hs' gs := by
  have hok := Heap.ok_ext (Heap.ok_set h.ok h.row (b := .row true 2 [[.slice (G.key j) 0 hs'.length 8 ex cap, gv]])) L
  have hjl := (List.getElem?_eq_some_iff.1 hj).1
  have hg : ((G.set k (.row true 2 [[.slice (G.key j) 0 hs'.length 8 ex cap, gv]])).ext L).get (G.key j) = some (.row true 8 (hs'.map Sh.enc)) := by rw [Heap.get_key_set hjl, hj]
  refine ⟨hok, Heap.get_set_here h.ok h.row _ L, .inr ⟨G.key j, 0, ex, cap, by rw [List.length_map], hok _ _ hg, fun _ => ⟨0, true, _, rfl, hg, ?_⟩⟩, (gone_set h _).ext L, ho, hsm, hl, h.few.2⟩
  rw [List.drop_zero, List.take_length]
theorem f101_one (h : isHd G k .nils .nils [] []) {v : AV} {s : Sh} (hA : Arr G 8 v [s.enc]) (ho : s.ok G) (hs : isSh s) (hsm : smallS s) :
    FnOk Tryz.prog 101 [.ptr k 0, .agg [.int .i64 1, .int .i64 0, .int .i64 0, .int .i64 0, .int .i64 0, .int .i64 0, .int .i64 0, .str [], .str [], .str [], .int .i64 0, .nils, .str [], .str [], v, .nils]] G fun r G' => r = .nili ∧ (∃ lv', ∃ cv ev dv : K, isHd G' k lv' .nils [s.cop cv ev dv] []) ∧ Nx k G G' := by
  refine FnOk.of_WW Tryz.func101 rfl C101ok R101ok ECq good_ECq ?_
  have hk : ∀ L, (G.ext L).get k = _ := fun L => Heap.get_ext_old h.ok h.row L
  have hset := fun b (l : List Blk) (α : Type) (c' : Heap → α) => Heap.setC_here h.ok h.row b l c'
  have hset2 := fun b d (l : List Blk) (α : Type) (c' : Heap → α) => Heap.setC_set_here h.ok h.row b d l c'
  have hk2 := fun b (l : List Blk) => Heap.get_set_here h.ok h.row b l
  have hlen := fun G => hA.len G
  simp only [go_sem, C101]
  refine CL.of (f150_one (ho.ext _) hs (hA.ext _)) ?_
  rintro _ G' ⟨rfl, hG⟩; rw [hG]; clear hG
  simp only [go_sem]
  refine CL.of (clone_nil clo42) ?_
  rintro _ G' ⟨rfl, hG⟩; rw [hG]; clear hG
  simp only [go_sem, hk, hset, hset2, hk2, hlen]
  obtain ⟨kk, r, ex', cap', wr, rows, hv, hrho, hgo, hrow⟩ := hA.at h.ok (j := 0) (Nat.zero_lt_succ _)
  have hg0 := hgo []
  rw [Heap.ext_nil] at hg0
  have hrow : rows[r]? = some [.int .i64 s.id, .int .i64 s.ep, .str s.fr, .str s.to, .bool s.frz, s.cv, s.ev, s.dv] := hrow
  have hne : k ≠ kk := by
    rintro rfl
    have := h.row
    rw [hg0] at this
    cases this
  have hw01 : IntKind.i64.wrap (0 + 1) = 1 := rfl
  have hv : v = .slice kk (r * 8) 1 8 ex' cap' := hv
  refine LL.sth good_ECq (fun i : Nat => 1 - i) (fun i M => (i = 0 ∧ isHd M k .nils .nils [] [] ∧ Nx k G M) ∨ (i = 1 ∧ (∃ lv', ∃ cv ev dv : K, isHd M k lv' .nils [s.cop cv ev dv] []) ∧ Nx k G M))
    (fun i => [(.z, .ptr k 0), ((.o (.i (.i (.o .z)))), v), ((.i (.i (.i (.o .z)))), .int .i64 1), ((.o (.o (.o (.i .z)))), .int .i64 i)]) ?_ 0 (.inl ⟨rfl, h.reset.ext _, Nx.set h.ok h.row _ _⟩) (Slots.all (by simp only [go_sem]; first | done | rfl | trace_state))
  rintro i M (⟨rfl, hM, hnx⟩ | ⟨rfl, ⟨lv', cv, ev, dv, hM⟩, hnx⟩)
  · have hkM : ∀ L, (M.ext L).get k = _ := fun L => Heap.get_ext_old hM.ok hM.row L
    have hgM : ∀ L, (M.ext L).get kk = _ := fun L => Heap.get_ext_old hM.ok (hnx.keep kk _ hne hg0) L
    have hsetM := fun b (l : List Blk) (α : Type) (c' : Heap → α) => Heap.setC_here hM.ok hM.row b l c'
    have hoM : s.ok M := hnx.sh h.row ho hsm
    have ec := fun L => ecq (hoM.ext L) hsm
    simp only [go_sem, hv, hkM, hgM, hrow, ec, hsetM, hw01, Sh.cop, Sh.enc, copB, Heap.key_ext]
    refine ⟨1, by show 1 - 1 < 1 - 0; decide, .inr ⟨rfl, ⟨_, _, _, _, isHd.putN hM (hs' := [s.cop (M.key 1) (M.key 2) (M.key 3)]) (j := 5) rfl 1 false (fun x hx => ?_) (fun x hx => ?_) (by show 1 ≤ 8; decide)⟩, hnx.trans (Nx.set hM.ok hM.row _ _)⟩, Slots.all (by simp only [go_sem, hv]; first | done | rfl | trace_state)⟩
    · rw [List.mem_singleton.1 hx]
      exact Sh.cop_ok (H := M.set k _) (ok_set' hM hoM hsm _) (i := 1) (j := 2) (m := 3) rfl rfl rfl
    · rw [List.mem_singleton.1 hx]
      exact ⟨hsm.b, hsm.c, hsm.e, hsm.d⟩
  · have hkM : ∀ L, (M.ext L).get k = _ := fun L => Heap.get_ext_old hM.ok hM.row L
    simp only [go_sem, hv, hkM]
    refine CL.of (f152_ok (hM.ext _) (Nat.le_refl 1)) ?_
    rintro _ G' ⟨rfl, hG⟩; rw [hG]; clear hG
    simp only [go_sem, hkM]
    refine CL.of (f153_ok (gs := []) (.inl ⟨rfl, rfl⟩) (Nat.zero_le _) 154) ?_
    rintro _ G' ⟨rfl, hG⟩; rw [hG]; clear hG
    simp only [go_sem]
    exact ⟨⟨_, _, _, _, hM.ext _⟩, hnx.trans (Nx.ext hM.ok _)⟩
end
end Go.Proofs
/- a node's shards, its base, where there is one shard: walked. -/


set_option linter.all false
set_option maxRecDepth 100000
namespace Go.Proofs
open Go Go.Ev
variable {H : Heap}
section
variable {G : Heap} {k : K}
theorem f49_base1 (h : isHd G k .nils .nils [] []) {v : AV} {s : Sh} (hA : Arr G 8 v [s.enc]) (ho : s.ok G) (hs : isSh s) (hsm : smallS s) :
    FnOk Tryz.prog 49 [.ptr k 0, .agg [.int .i64 1, .int .i64 0, .int .i64 0, .int .i64 0, .int .i64 0, .int .i64 0, .int .i64 0, .str [], .str [], .str [], .int .i64 0, .nils, .str [], .str [], v, .nils]] G fun r G' => r = .tup [.agg zA, .nili] ∧ (∃ lv', ∃ cv ev dv : K, isHd G' k lv' .nils [s.cop cv ev dv] []) ∧ Nx k G G' := by
  refine FnOk.of_WW Tryz.func49 rfl C49ok R49ok E0 good_E0 ?_
  have hk : ∀ L, (G.ext L).get k = _ := fun L => Heap.get_ext_old h.ok h.row L
  simp only [go_sem, C49, hk]
  refine CL.of (f101_one (h.ext _) (hA.ext _) (ho.ext _) hs hsm) ?_
  rintro _ G' ⟨rfl, ⟨lv', cv, ev, dv, hhd⟩, hnx⟩
  have e1 := hnx.keep (G.key 1) _ (ne_key h.ok h.row 1) (get_lit rfl)
  have e3 := hnx.keep (G.key 3) _ (ne_key h.ok h.row 3) (get_lit rfl)
  have g1 := fun L => Heap.get_ext_old hhd.ok e1 L
  have g3 := fun L => Heap.get_ext_old hhd.ok e3 L
  have s1 := fun b (l : List Blk) (α : Type) (c' : Heap → α) => Heap.setC_here hhd.ok e1 b l c'
  have k1 := fun b (l : List Blk) => Heap.get_set_here hhd.ok e1 b l
  refine WW.nil ?_
  simp only [go_sem]
  refine CL.of (f105_none _) ?_
  rintro _ G' ⟨rfl, hG⟩; rw [hG]; clear hG
  simp only [go_sem]
  refine CL.of (f64_ok none 10) ?_
  rintro _ G' ⟨rfl, hG⟩; rw [hG]; clear hG
  simp only [go_sem, g1, g3, s1, k1]
  exact ⟨rfl, ⟨lv', cv, ev, dv, (hhd.cell e1 _).ext _⟩, ((Nx.ext h.ok _).trans hnx).cell h.ok hhd.ok e1 _ _⟩
/-- what comes of it -/
noncomputable def shL (G : Heap) (s : Sh) : List Blk := [.row true 8 [s.enc], zB (nilB s.cv) 5 (s.cells.map Cell.enc), zB (nilB s.ev) 4 (s.evs.map Evn.enc), zB (nilB s.dv) 6 (s.done.map Dn.enc), .row true 8 [(s.cop (G.key 1) (G.key 2) (G.key 3)).enc], .row true 8 [(s.cop (G.key 1) (G.key 2) (G.key 3)).enc]]
theorem f21_one {lv gv : AV} {gs : List Gn} {s : Sh} (h : isHd G k lv gv [s] gs) :
    FnOk Tryz.prog 21 [.ptr k 0] G fun r G' => r = .slice (G.key 5) 0 1 8 false 1 ∧ G' = G.ext (shL G s) := by
  refine FnOk.of_WW Tryz.func21 rfl C21ok R21ok ECq good_ECq ?_
  have hk : ∀ L, (G.ext L).get k = _ := fun L => Heap.get_ext_old h.ok h.row L
  have hA := h.l
  have hlen := fun G => hA.len G
  have ho := h.each s (List.mem_singleton_self _)
  have hsm := h.small s (List.mem_singleton_self _)
  obtain ⟨kk, r, ex', cap', wr, rows, hv, hrho, hgo, hrow⟩ := hA.at h.ok (j := 0) (Nat.zero_lt_succ _)
  have hrow : rows[r]? = some [.int .i64 s.id, .int .i64 s.ep, .str s.fr, .str s.to, .bool s.frz, s.cv, s.ev, s.dv] := hrow
  have hv : lv = .slice kk (r * 8) 1 8 ex' cap' := hv
  simp only [go_sem, C21, hk, hlen]
  have hw01 : IntKind.i64.wrap (0 + 1) = 1 := rfl
  have ec := fun L => ecq (ho.ext L) hsm
  refine LL.un good_ECq 1 ?_
  simp only [go_sem, hv, hk, hgo, hrow, ec, hw01]
  refine CL.of (f50_ok (ho.ext _) hsm) ?_
  rintro _ G' ⟨rfl, hG⟩; rw [hG]; clear hG
  simp only [go_sem, hv, hk, hgo, hrow, hw01, Sh.cop, Sh.enc, copB, Heap.key_ext]
  rfl
theorem Sh.alike {s t : Sh} (hs : s.ok H) (ht : t.ok H) (h : s.enc = t.enc) : shL H s = shL H t := by
  obtain ⟨id, ep, fr, to, frz, cells, evs, done, cv, ev, dv⟩ := t
  simp only [Sh.enc, List.cons.injEq, AV.int.injEq, AV.str.injEq, AV.bool.injEq, true_and, and_true] at h
  obtain ⟨h1, h2, h3, h4, h5, h6, h7, h8⟩ := h
  have u1 := hs.c.uniq (by rw [h6]; exact ht.c) (by decide)
  have u2 := hs.e.uniq (by rw [h7]; exact ht.e) (by decide)
  have u3 := hs.d.uniq (by rw [h8]; exact ht.d) (by decide)
  have l1 := congrArg List.length u1
  have l2 := congrArg List.length u2
  have l3 := congrArg List.length u3
  simp only [List.length_map] at l1 l2 l3
  simp only [shL, Sh.cop, Sh.enc, h1, h2, h3, h4, h5, h6, h7, h8, u1, u2, u3, l1, l2, l3]
theorem isHd.alike {lv gv lv' gv' : AV} {gs gs' : List Gn} {s t : Sh} (h : isHd H k lv gv [s] gs) (g : isHd H k lv' gv' [t] gs') : shL H s = shL H t := by
  have e := h.row
  rw [g.row] at e
  simp only [Option.some.injEq, Blk.row.injEq, List.cons.injEq, and_true, true_and] at e
  obtain ⟨rfl, rfl⟩ := e
  have u := h.l.uniq g.l (by decide)
  simp only [List.map_cons, List.map_nil, List.cons.injEq, and_true] at u
  exact Sh.alike (h.each s (List.mem_singleton_self _)) (g.each t (List.mem_singleton_self _)) u
open Classical in
/-- a node's shards, where there is one -/
noncomputable def EBs : FuncId → List AV → Heap → RC := fun f args H =>
  if h : f = 21 ∧ ∃ (k : K) (s : Sh) (lv gv : AV) (gs : List Gn), args = [.ptr k 0] ∧ isHd H k lv gv [s] gs then .ok (.slice (H.key 5) 0 1 8 false 1) (H.ext (shL H h.2.choose_spec.choose))
  else if f = 116 ∧ args = [.nils] then .ok .nils H else .fail
theorem good_EBs : Ev.Good Tryz.prog EBs := by
  intro f args H r G he φ w args' ha hw
  refine (?_ : FnOk Tryz.prog f args H fun v' G' => v' = r ∧ G' = G).one φ w args' ha hw
  unfold EBs at he
  split at he
  · rename_i h
    obtain ⟨rfl, _⟩ := id h
    obtain ⟨lv, gv, gs, e1, e2⟩ := h.2.choose_spec.choose_spec
    cases he
    generalize h.2.choose_spec.choose = s at e1 e2
    generalize h.2.choose = k at e1 e2
    rw [e1]
    exact f21_one e2
  · split at he
    · rename_i h
      obtain ⟨rfl, rfl⟩ := h
      cases he
      exact clone_nil clo42
    · cases he
theorem eb21 {lv gv : AV} {gs : List Gn} {s : Sh} (h : isHd H k lv gv [s] gs) : EBs 21 [.ptr k 0] H = .ok (.slice (H.key 5) 0 1 8 false 1) (H.ext (shL H s)) := by
  have hx : 21 = 21 ∧ ∃ (k' : K) (s : Sh) (lv gv : AV) (gs : List Gn), [AV.ptr k 0] = [.ptr k' 0] ∧ isHd H k' lv gv [s] gs := ⟨rfl, k, s, lv, gv, gs, rfl, h⟩
  unfold EBs
  rw [dif_pos hx]
  obtain ⟨lv', gv', gs', e1, e2⟩ := hx.2.choose_spec.choose_spec
  generalize hx.2.choose_spec.choose = t at e2 ⊢
  generalize hx.2.choose = k' at e1 e2
  simp only [List.cons.injEq, AV.ptr.injEq, and_true] at e1
  subst e1
  rw [h.alike e2]
theorem eb116 (H : Heap) : EBs 116 [.nils] H = .ok .nils H := by
  unfold EBs
  rw [dif_neg (by rintro ⟨h, _⟩; cases h), if_pos ⟨rfl, rfl⟩]
/-- the record of all there is -/
def baseL (v w : AV) : List AV := [.int .i64 1, .int .i64 0, .int .i64 0, .int .i64 0, .int .i64 0, .int .i64 0, .int .i64 0, .str [], .str [], .str [], .int .i64 0, .nils, .str [], .str [], v, w]
theorem f54_one {lv : AV} {s : Sh} (h : isHd G k lv .nils [s] []) :
    FnOk Tryz.prog 54 [.ptr k 0] G fun r G' => ∃ (c cv ev dv : K) (L : List Blk), r = .agg (baseL (.slice c 0 1 8 false 1) .nils) ∧ G' = G.ext L ∧ Arr G' 8 (.slice c 0 1 8 false 1) [(s.cop cv ev dv).enc] ∧ (s.cop cv ev dv).ok G' := by
  refine FnOk.of_WW Tryz.func54 rfl C54ok R54ok EBs good_EBs ?_
  have hk : ∀ L, (G.ext L).get k = _ := fun L => Heap.get_ext_old h.ok h.row L
  have ec := fun L => eb21 (h.ext L)
  have ho := h.each s (List.mem_singleton_self _)
  simp only [go_sem, C54, hk, ec, eb116, shL, Heap.key_ext]
  refine ⟨_, _, _, _, _, rfl, rfl, arr_row (i := 6) rfl rfl, Sh.cop_ok ho (i := 2) (j := 3) (m := 4) rfl rfl rfl⟩
end
end Go.Proofs
/- a put asked of a node of one shard, told exactly: walked. -/


set_option linter.all false
set_option maxRecDepth 100000
namespace Go.Proofs
open Go Go.Ev
variable {H : Heap}
/-- the shard t is s behind one more put -/
structure Nxt (s : Sh) (key : List Nat) (i : Nat) (t : Sh) : Prop where
  cells : t.cells = refW s.cells (nextC s.cells key [118] false)
  evs : t.evs = s.evs ++ [nextE s.cells key [118] false]
  span : t.fr = s.fr ∧ t.to = s.to
theorem nxt_ask {e : Int} {z : Bool} {i : Nat} {s : Sh} {key : List Nat} (hP : PutI e z i s) (hi : i < 20) {j : Int} {k0 k1 k2 : K} : Nxt s key i (askS s key [118] 0 j k0 k1 k2) := by
  have h0 : (s.evs ++ [nextE s.cells key [118] false]).length - 24 = 0 := by rw [List.length_append, hP.len]; show i + 1 - 24 = 0; omega
  refine ⟨?_, ?_, ⟨rfl, rfl⟩⟩
  · show keepC ((s.evs ++ [nextE s.cells key [118] false]).take ((s.evs ++ [nextE s.cells key [118] false]).length - 24)) _ = _
    rw [h0]; rfl
  · show (s.evs ++ [nextE s.cells key [118] false]).drop ((s.evs ++ [nextE s.cells key [118] false]).length - 24) = _
    rw [h0]; rfl
theorem ask_putX {e : Int} {z : Bool} {i : Nat} {s : Sh} (h : s.ok H) (hP : PutI e z i s) (hi : i < 20) {ke : K} (hev : s.ev = outV ke 4 s.evs.length) {key : List Nat} (hk : has s.fr s.to key) : FnOk Tryz.prog 81 [.agg s.enc, .int .i64 0, .int .i64 ((i : Int) + 1), .agg [.int .i64 2, .str key, .str [], .str [118], .int .i64 0, .nils]] H
    fun r G => (∃ t ver, r = .tup [.agg (Sh.enc t), .agg [.int .i64 0, .str [], .int .i64 ver, .nils], .int .i64 0] ∧ Sh.ok G t ∧ PutI e z (i + 1) t ∧ Nxt s key i t) ∧ ∃ L, G = H.ext L := by
  have hl := hP.len
  have hc := hP.cl
  have hd := hP.dl
  have hv := hP.vers key
  refine (f81_put h hev (by omega) (by omega) hk.2.1 (v := [118]) (by show (1 : Int) ≤ 12; decide) hP.hist (by omega) (by omega) hP.up (fun d hd => (hP.bare d hd).2) (ses := 0) (id := (i : Int) + 1) hP.stands).mono ?_
  rintro r G ⟨rfl, rfl⟩
  refine ⟨⟨_, _, rfl, ?_, hP.next hi hk _ _ _, nxt_ask hP (by omega)⟩, _, rfl⟩
  refine askS_ok (by rw [refW_eq hP.hist.1]; have := withL_leng (nextC s.cells key [118] false) s.cells; omega) (by omega) (Nat.lt_of_le_of_lt withD_len (by omega)) h.dok rfl rfl rfl
section
variable {G : Heap} {k : K} {lv gv : AV} {gs : List Gn} {e : Int} {i : Nat} {s : Sh}
theorem f102_putX (h : isHd G k lv gv [s] gs) (hP : PutI e false i s) (hi : i < 20) {key : List Nat} (hk : has s.fr s.to key) : FnOk Tryz.prog 102 [.ptr k 0, .agg [.int .i64 2, .int .i64 0, .int .i64 ((i : Int) + 1), .int .i64 0, .int .i64 0, .int .i64 0, .int .i64 2, .str key, .str [], .str [118], .int .i64 0, .nils, .str [], .str [], .nils, .nils]] G fun r G' => (∃ ver, r = .tup [.agg [.int .i64 0, .str [], .int .i64 ver, .nils], .nili]) ∧ (∃ lv' t, isHd G' k lv' gv [t] gs ∧ PutI e false (i + 1) t ∧ Nxt s key i t) ∧ Nx k G G' := by
  refine FnOk.of_WW Tryz.func102 rfl C102ok R102ok E0 good_E0 ?_
  have hso := h.each s (by simp)
  simp only [go_sem, C102]
  refine CL.of (f79_ok (by decide) key _ _ _ _) ?_
  rintro _ G' ⟨rfl, hG⟩; rw [hG]; clear hG
  simp only [go_sem]
  refine CL.of (f78_yes (h.ext _) key (i := 0) (idx_one (hP.find hk)) rfl) ?_
  rintro _ G' ⟨rfl, hG⟩; rw [hG]; clear hG
  simp only [go_sem, Sh.cop, Sh.enc, copB, Heap.key_ext]
  refine CL.of (ask_putX (s := s.cop (G.key 2) (G.key 3) (G.key 4)) (Sh.cop_ok hso rfl rfl rfl) (hP.cop _ _ _) hi (hP.evV _ _ _) hk) ?_
  rintro _ M ⟨⟨t, ver, rfl, haok, hPt, hNt⟩, L, hM⟩
  have htsm := hPt.small (by omega)
  have htid : s.id = t.id := hP.hd.1.trans hPt.hd.1.symm
  have hMok : M.ok := by rw [hM]; exact Heap.ok_ext (Heap.ok_ext h.ok _) _
  have e1 := get_of_ext hM (i := 1) rfl
  have e5 := get_of_ext hM (i := 5) rfl
  have hset := set_of_ext hM (i := 5) (Nat.lt_of_sub_eq_succ rfl)
  have g1 := fun L => Heap.get_ext_old hMok e1 L
  have s5 := fun b (l : List Blk) (α : Type) (c' : Heap → α) => Heap.setC_here hMok e5 b l c'
  have k5 := fun b (l : List Blk) => Heap.get_set_here hMok e5 b l
  have g5 := fun L => Heap.get_ext_old hMok e5 L
  have hh : ∀ b l, isHd ((M.set (G.key 5) b).ext l) k lv gv [s] gs := fun b l => by
    obtain ⟨M2, e⟩ := hset b l
    rw [e]
    exact h.ext M2
  have hn : ∀ b l, Nx k G ((M.set (G.key 5) b).ext l) := fun b l => by
    obtain ⟨M2, e⟩ := hset b l
    rw [e]
    exact Nx.ext h.ok M2
  have ha : ∀ b l, t.ok ((M.set (G.key 5) b).ext l) := fun b l => ⟨(haok.c.set e5 (by decide)).ext l, (haok.e.set e5 (by decide)).ext l, (haok.d.set e5 (by decide)).ext l, bareL.ok htsm.b _, haok.cl, haok.el, haok.dl⟩
  have hne : G.key 5 ≠ G.key 1 := fun e => by
    have := congrArg K.toNat e
    rw [Heap.toNat_key, Heap.toNat_key] at this
    omega
  have hg1 : ∀ b l, ((M.set (G.key 5) b).ext l).get (G.key 1) = _ := fun b l => Heap.get_set_there hMok e1 hne b l
  have hg0 : ∀ b x, ((M.set (G.key 5) b).ext [x]).get (M.key 0) = some x := fun b x => Heap.get_key_set (Nat.zero_lt_succ _)
  refine WW.nil ?_
  simp only [go_sem, Sh.enc, g5, s5, k5]
  refine CL.of (f156_same (s := t) (hh _ _) htid (ha _ _) htsm) ?_
  rintro _ M3 ⟨rfl, ⟨lv3, h3⟩, n3⟩
  have hMk : k ≠ M.key 0 := by
    have hMG := h.ok _ _ h.row
    rintro rfl
    have h1 := hMok _ _ (by rw [hM, Heap.ext_append]; exact Heap.get_ext_old h.ok h.row _)
    rw [Heap.toNat_key] at h1
    omega
  have q0 := n3.keep (M.key 0) _ hMk (hg0 _ _)
  have q1 := n3.keep (G.key 1) _ (ne_key h.ok h.row 1) (hg1 _ _)
  have r0 := fun L => Heap.get_ext_old h3.ok q0 L
  have r1 := fun L => Heap.get_ext_old h3.ok q1 L
  have s1 := fun b (l : List Blk) (α : Type) (c' : Heap → α) => Heap.setC_here h3.ok q1 b l c'
  have k1 := fun b (l : List Blk) => Heap.get_set_here h3.ok q1 b l
  refine WW.nil ?_
  simp only [go_sem, r0, r1, s1, k1]
  exact ⟨⟨ver, rfl⟩, ⟨lv3, t, (h3.cell q1 _).ext [], hPt, ⟨hNt.cells, hNt.evs, hNt.span⟩⟩, ((hn _ _).trans n3).cell h.ok h3.ok q1 _ _⟩
theorem f49_putX (h : isHd G k lv gv [s] gs) (hP : PutI e false i s) (hi : i < 20) {key : List Nat} (hk : has s.fr s.to key) : FnOk Tryz.prog 49 [.ptr k 0, .agg [.int .i64 2, .int .i64 0, .int .i64 ((i : Int) + 1), .int .i64 0, .int .i64 0, .int .i64 0, .int .i64 2, .str key, .str [], .str [118], .int .i64 0, .nils, .str [], .str [], .nils, .nils]] G fun r G' => (∃ ver, r = .tup [.agg [.int .i64 0, .str [], .int .i64 ver, .nils], .nili]) ∧ (∃ lv' t, isHd G' k lv' gv [t] gs ∧ PutI e false (i + 1) t ∧ Nxt s key i t) ∧ Nx k G G' := by
  refine FnOk.of_WW Tryz.func49 rfl C49ok R49ok E0 good_E0 ?_
  have hk' : ∀ L, (G.ext L).get k = _ := fun L => Heap.get_ext_old h.ok h.row L
  simp only [go_sem, C49, hk']
  refine CL.of (f102_putX (h.ext _) hP hi hk) ?_
  rintro _ G' ⟨⟨ver, rfl⟩, ⟨lv', t, hhd, hPt, hNt⟩, hnx⟩
  obtain ⟨G1, hG1⟩ : ∃ G1, G1 = G' := ⟨_, rfl⟩
  rw [← hG1] at hhd hnx ⊢
  clear hG1
  have e1 := hnx.keep (G.key 1) _ (ne_key h.ok h.row 1) (get_lit rfl)
  have e3 := hnx.keep (G.key 3) _ (ne_key h.ok h.row 3) (get_lit rfl)
  have g3 := fun L => Heap.get_ext_old hhd.ok e3 L
  have s3 := fun b (l : List Blk) (α : Type) (c' : Heap → α) => Heap.setC_here hhd.ok e3 b l c'
  have k3 := fun b (l : List Blk) => Heap.get_set_here hhd.ok e3 b l
  have hne : G.key 3 ≠ G.key 1 := fun e => by
    have := congrArg K.toNat e
    rw [Heap.toNat_key, Heap.toNat_key] at this
    omega
  have o2 : ∀ b, (G1.set (G.key 3) b).ok := fun b => Heap.ok_set hhd.ok e3
  have e1' : ∀ b, (G1.set (G.key 3) b).get (G.key 1) = some (.row true 4 [[.int .i64 0, .str [], .int .i64 0, .nils]]) := fun b => by
    have := Heap.get_set_there hhd.ok e1 hne b []
    rwa [Heap.ext_nil] at this
  have g1 := fun b L => Heap.get_ext_old (o2 b) (e1' b) L
  have s1 := fun b b' (l : List Blk) (α : Type) (c' : Heap → α) => Heap.setC_here (o2 b) (e1' b) b' l c'
  have k1 := fun b b' (l : List Blk) => Heap.get_set_here (o2 b) (e1' b) b' l
  refine WW.nil ?_
  simp only [go_sem, g3, s3, k3]
  refine CL.of (f105_none _) ?_
  rintro _ G' ⟨rfl, hG⟩; rw [hG]; clear hG
  simp only [go_sem]
  refine CL.of (f64_ok none 10) ?_
  rintro _ G' ⟨rfl, hG⟩; rw [hG]; clear hG
  simp only [go_sem, g3, s3, k3, g1, s1, k1]
  have hn3 : ∀ b, Nx k G (G1.set (G.key 3) b) := fun b => by
    have := ((Nx.ext h.ok _).trans hnx).cell h.ok hhd.ok e3 b []
    rwa [Heap.ext_nil] at this
  exact ⟨⟨ver, rfl⟩, ⟨lv', t, ((hhd.cell e3 _).cell (e1' _) _).ext _, hPt, hNt⟩, (hn3 _).cell h.ok (o2 _) (e1' _) _ _⟩
end
end Go.Proofs
/- A node; a record noted: walked. -/

set_option linter.all false
set_option maxRecDepth 100000
namespace Go.Proofs
open Go Go.Ev
variable {H : Heap}
section
variable {k kd : K} {wr : Bool}
theorem f65_ok {b s : List Nat} {n m : Nat} (hk : H.get k = some (.row true 2 [[.ptr kd 0, .int .i64 m]])) (hd : H.get kd = some (.row true 2 [[.str b, .int .i64 n]])) (hl : b.length + (wrapT s).length ≤ 200000) (hn : n ≤ b.length) (hm : m < 1000000) (hs : s.length < 1000000) :
    FnOk Tryz.prog 65 [.ptr k 0, .str s] H fun r G => r = .nili ∧ G = (H.set kd (.row true 2 [[.str (b ++ wrapT s), .int .i64 ((n + (wrapT s).length : Nat) : Int)]])).set k (.row true 2 [[.ptr kd 0, .int .i64 ((m + 1 : Nat) : Int)]]) := by
  refine FnOk.assume fun hok => ?_
  have hne : kd ≠ k := by
    rintro rfl
    rw [hk] at hd
    cases hd
  have hk' := fun L => Heap.get_ext_old hok hk L
  have hd' := fun b L => Heap.get_set_here hok hd b L
  have hkk := fun b L => Heap.get_set_there hok hk hne b L
  have hset := fun (b c : Blk) (l : List Blk) (α : Type) (c' : Heap → α) => Heap.setC_here (α := α) (Heap.ok_set hok hd (b := b)) (by have := hkk b []; rwa [Heap.ext_nil] at this) c l c'
  have hw : IntKind.i64.wrap ((m : Int) + 1) = ((m + 1 : Nat) : Int) := by rw [wrap_i64 (by omega) (by omega)]; omega
  obtain ⟨E1, hE1, e1, e2⟩ := two_calls (P := Tryz.prog) (f := 110) (g := 129) (by decide) (H := H) (H2 := H) (f110_ok hs) (f129_ok hd hl hn)
  have e1 : E1 110 [.str s] (H.ext []) = .ok (.str (wrapT s)) (H.ext []) := e1
  have e2 : E1 129 [.ptr kd 0, .str (wrapT s)] (H.ext []) = .ok .nili ((H.set kd (.row true 2 [[.str (b ++ wrapT s), .int .i64 ((n + (wrapT s).length : Nat) : Int)]])).ext []) := e2
  refine FnOk.of_WW Tryz.func65 rfl C65ok R65ok E1 hE1 ?_
  simp only [go_sem, C65, hk', e1, e2, hkk, hset, hw]
  rfl
end
end Go.Proofs
/- a put asked of a node of one shard: what is there behind it, exactly. -/

set_option linter.all false
set_option maxRecDepth 100000
namespace Go.Proofs
open Go Go.Ev
variable {H : Heap}
section
variable {G : Heap} {k : K} {lv gv : AV} {gs : List Gn} {e : Int} {i : Nat} {s : Sh}
theorem f156_sameE {o s : Sh} (h : isHd G k lv gv [o] gs) (hid : o.id = s.id) (hs : s.ok G) (hsm : smallS s) : ∃ X, FnOk Tryz.prog 156 [.ptr k 0, .agg s.enc] G (fun r G' => r = .tup [] ∧ G' = X) ∧ (∃ lv', isHd X k lv' gv [s] gs) ∧ Nx k G X := by
  have hput := fun L (hj : L[1]? = some (.row true 8 ([s].map Sh.enc))) => isHd.put (hs' := [s]) h (L := L) (j := 1) hj (fun x hx => by rw [List.mem_singleton.1 hx]; exact hs) (fun x hx => by rw [List.mem_singleton.1 hx]; exact hsm) (by show 1 ≤ 8; decide) 1 false
  refine ⟨?X, ?a, ?b⟩
  case a =>
    refine FnOk.of_WW Tryz.func156 rfl C156ok R156ok E0 good_E0 ?_
    have hk : ∀ L, (G.ext L).get k = _ := fun L => Heap.get_ext_old h.ok h.row L
    have hset := fun b (l : List Blk) (α : Type) (c' : Heap → α) => Heap.setC_here h.ok h.row b l c'
    have hset2 := fun b d (l : List Blk) (α : Type) (c' : Heap → α) => Heap.setC_set_here h.ok h.row b d l c'
    have hk2 := fun b (l : List Blk) => Heap.get_set_here h.ok h.row b l
    simp only [go_sem, C156, hk, Sh.enc]
    refine CL.of (clone_zd clo97 (h.l.ext _) (by show (2 * 1 + 192) * 128 ≤ 281474976710656; decide) (fun top σ => shs_rens (fun s hs => (h.each s hs).ext _) top σ)) ?_
    rintro _ _ ⟨rfl, rfl⟩
    simp only [go_sem, zV_pos (show 0 < 0 + 1 from Nat.zero_lt_succ 0), zB_pos (show 0 < [o.enc].length from Nat.zero_lt_succ 0)]
    refine CL.of (f199_only (q := fun o => decide (o.id = s.id)) (Heap.ok_ext h.ok _) (get_lit rfl) (fun _ _ => call201 ..) (fun top σ => by exact cap_lit (Nat.zero_lt_succ _) 201 top σ) (fun L => by exact f201_ok (s := s) (get_lit2 rfl) o) (decide_eq_true hid)) ?_
    rintro _ G' ⟨rfl, hG⟩
    rw [hG, Heap.set_ext_key _ _ _ _ (by exact Nat.lt_succ_self 1)]
    clear hG
    simp only [go_sem, hk, hset, hset2, hk2]
    refine CL.of (f152_ok (hput _ (by rfl)) (Nat.le_refl 1)) ?_
    rintro _ G' ⟨rfl, hG⟩; rw [hG]; clear hG
    simp only [go_sem]
    exact rfl
  case b => exact ⟨⟨_, hput _ rfl⟩, Nx.set h.ok h.row _ _⟩
theorem ask_putE {e : Int} {z : Bool} {i : Nat} {s : Sh} (h : s.ok H) (hP : PutI e z i s) (hi : i < 20) {ke : K} (hev : s.ev = outV ke 4 s.evs.length) {key : List Nat} (hk : has s.fr s.to key) : ∃ t ver L, FnOk Tryz.prog 81 [.agg s.enc, .int .i64 0, .int .i64 ((i : Int) + 1), .agg [.int .i64 2, .str key, .str [], .str [118], .int .i64 0, .nils]] H
    (fun r G => r = .tup [.agg (Sh.enc t), .agg [.int .i64 0, .str [], .int .i64 ver, .nils], .int .i64 0] ∧ G = H.ext L) ∧ Sh.ok (H.ext L) t ∧ PutI e z (i + 1) t ∧ Nxt s key i t := by
  have hl := hP.len
  have hc := hP.cl
  have hd := hP.dl
  have hv := hP.vers key
  refine ⟨_, _, _, f81_put h hev (by omega) (by omega) hk.2.1 (v := [118]) (by show (1 : Int) ≤ 12; decide) hP.hist (by omega) (by omega) hP.up (fun d hd => (hP.bare d hd).2) (ses := 0) (id := (i : Int) + 1) hP.stands, ?_, hP.next hi hk _ _ _, nxt_ask hP (by omega)⟩
  refine askS_ok (by rw [refW_eq hP.hist.1]; have := withL_leng (nextC s.cells key [118] false) s.cells; omega) (by omega) (Nat.lt_of_le_of_lt withD_len (by omega)) h.dok rfl rfl rfl
theorem f102_putE (h : isHd G k lv gv [s] gs) (hP : PutI e false i s) (hi : i < 20) {key : List Nat} (hk : has s.fr s.to key) : ∃ ver X, FnOk Tryz.prog 102 [.ptr k 0, .agg [.int .i64 2, .int .i64 0, .int .i64 ((i : Int) + 1), .int .i64 0, .int .i64 0, .int .i64 0, .int .i64 2, .str key, .str [], .str [118], .int .i64 0, .nils, .str [], .str [], .nils, .nils]] G (fun r G' => r = .tup [.agg [.int .i64 0, .str [], .int .i64 ver, .nils], .nili] ∧ G' = X) ∧ (∃ lv' t, isHd X k lv' gv [t] gs ∧ PutI e false (i + 1) t ∧ Nxt s key i t) ∧ Nx k G X := by
  have hso := h.each s (by simp)
  obtain ⟨L0, hL0⟩ : ∃ L0, L0 = [Blk.row true 16 [[.int .i64 2, .int .i64 0, .int .i64 ((i : Int) + 1), .int .i64 0, .int .i64 0, .int .i64 0, .int .i64 2, .str key, .str [], .str [118], .int .i64 0, .nils, .str [], .str [], .nils, .nils]], .row true 4 [zA], zB (nilB s.cv) 5 (s.cells.map Cell.enc), zB (nilB s.ev) 4 (s.evs.map Evn.enc), zB (nilB s.dv) 6 (s.done.map Dn.enc), .row true 8 [(s.cop (G.key 2) (G.key 3) (G.key 4)).enc]] := ⟨_, rfl⟩
  obtain ⟨t, ver, L, hx, haok, hPt, hNt⟩ := ask_putE (H := G.ext L0) (s := s.cop (G.key 2) (G.key 3) (G.key 4)) (by rw [hL0]; exact Sh.cop_ok hso rfl rfl rfl) (hP.cop _ _ _) hi (hP.evV _ _ _) hk
  obtain ⟨M, hM⟩ : ∃ M, M = (G.ext L0).ext L := ⟨_, rfl⟩
  rw [← hM] at hx haok
  rw [hL0] at hM
  have htsm := hPt.small (by omega)
  have htid : s.id = t.id := hP.hd.1.trans hPt.hd.1.symm
  have hMok : M.ok := by rw [hM]; exact Heap.ok_ext (Heap.ok_ext h.ok _) _
  have e1 := get_of_ext hM (i := 1) rfl
  have e5 := get_of_ext hM (i := 5) rfl
  have hset := set_of_ext hM (i := 5) (Nat.lt_of_sub_eq_succ rfl)
  have g1 := fun L => Heap.get_ext_old hMok e1 L
  have s5 := fun b (l : List Blk) (α : Type) (c' : Heap → α) => Heap.setC_here hMok e5 b l c'
  have k5 := fun b (l : List Blk) => Heap.get_set_here hMok e5 b l
  have g5 := fun L => Heap.get_ext_old hMok e5 L
  have hh : ∀ b l, isHd ((M.set (G.key 5) b).ext l) k lv gv [s] gs := fun b l => by
    obtain ⟨M2, e⟩ := hset b l
    rw [e]
    exact h.ext M2
  have hn : ∀ b l, Nx k G ((M.set (G.key 5) b).ext l) := fun b l => by
    obtain ⟨M2, e⟩ := hset b l
    rw [e]
    exact Nx.ext h.ok M2
  have ha : ∀ b l, t.ok ((M.set (G.key 5) b).ext l) := fun b l => ⟨(haok.c.set e5 (by decide)).ext l, (haok.e.set e5 (by decide)).ext l, (haok.d.set e5 (by decide)).ext l, bareL.ok htsm.b _, haok.cl, haok.el, haok.dl⟩
  have hne : G.key 5 ≠ G.key 1 := fun e => by
    have := congrArg K.toNat e
    rw [Heap.toNat_key, Heap.toNat_key] at this
    omega
  have hg1 : ∀ b l, ((M.set (G.key 5) b).ext l).get (G.key 1) = _ := fun b l => Heap.get_set_there hMok e1 hne b l
  have hg0 : ∀ b x, ((M.set (G.key 5) b).ext [x]).get (M.key 0) = some x := fun b x => Heap.get_key_set (Nat.zero_lt_succ _)
  obtain ⟨M3, hx3, ⟨lv3, h3⟩, n3⟩ := f156_sameE (s := t) (hh (.row true 8 [t.enc]) [.row true 4 [[.int .i64 0, .str [], .int .i64 ver, .nils]]]) htid (ha _ _) htsm
  have hMk : k ≠ M.key 0 := by
    have hMG := h.ok _ _ h.row
    rintro rfl
    have h1 := hMok _ _ (by rw [hM, Heap.ext_append]; exact Heap.get_ext_old h.ok h.row _)
    rw [Heap.toNat_key] at h1
    omega
  have q0 := n3.keep (M.key 0) _ hMk (hg0 _ _)
  have q1 := n3.keep (G.key 1) _ (ne_key h.ok h.row 1) (hg1 _ _)
  have r0 := fun L => Heap.get_ext_old h3.ok q0 L
  have r1 := fun L => Heap.get_ext_old h3.ok q1 L
  have s1 := fun b (l : List Blk) (α : Type) (c' : Heap → α) => Heap.setC_here h3.ok q1 b l c'
  have k1 := fun b (l : List Blk) => Heap.get_set_here h3.ok q1 b l
  refine ⟨ver, (M3.set (G.key 1) (.row true 4 [[.int .i64 0, .str [], .int .i64 ver, .nils]])).ext [], ?_, ⟨lv3, t, (h3.cell q1 _).ext [], hPt, ⟨hNt.cells, hNt.evs, hNt.span⟩⟩, ((hn _ _).trans n3).cell h.ok h3.ok q1 _ _⟩
  refine FnOk.of_WW Tryz.func102 rfl C102ok R102ok E0 good_E0 ?_
  simp only [go_sem, C102]
  refine CL.of (f79_ok (by decide) key _ _ _ _) ?_
  rintro _ G' ⟨rfl, hG⟩; rw [hG]; clear hG
  simp only [go_sem]
  refine CL.of (f78_yes (h.ext _) key (i := 0) (idx_one (hP.find hk)) rfl) ?_
  rintro _ G' ⟨rfl, hG⟩; rw [hG]; clear hG
  simp only [go_sem, Sh.cop, Sh.enc, copB, Heap.key_ext]
  rw [hL0] at hx
  refine CL.of hx ?_
  rintro _ G' ⟨rfl, hG⟩; rw [hG]; clear hG
  refine WW.nil ?_
  simp only [go_sem, Sh.enc, g5, s5, k5]
  refine CL.of hx3 ?_
  rintro _ G' ⟨rfl, hG⟩; rw [hG]; clear hG
  refine WW.nil ?_
  simp only [go_sem, r0, r1, s1, k1]
theorem f49_putE (h : isHd G k lv gv [s] gs) (hP : PutI e false i s) (hi : i < 20) {key : List Nat} (hk : has s.fr s.to key) : ∃ ver X, FnOk Tryz.prog 49 [.ptr k 0, .agg [.int .i64 2, .int .i64 0, .int .i64 ((i : Int) + 1), .int .i64 0, .int .i64 0, .int .i64 0, .int .i64 2, .str key, .str [], .str [118], .int .i64 0, .nils, .str [], .str [], .nils, .nils]] G (fun r G' => r = .tup [.agg [.int .i64 0, .str [], .int .i64 ver, .nils], .nili] ∧ G' = X) ∧ (∃ lv' t, isHd X k lv' gv [t] gs ∧ PutI e false (i + 1) t ∧ Nxt s key i t) ∧ Nx k G X := by
  obtain ⟨L0, hL0⟩ : ∃ L0, L0 = [Blk.row true 16 [[.int .i64 2, .int .i64 0, .int .i64 ((i : Int) + 1), .int .i64 0, .int .i64 0, .int .i64 0, .int .i64 2, .str key, .str [], .str [118], .int .i64 0, .nils, .str [], .str [], .nils, .nils]], .row true 4 [zA], .row true 2 [[lv, gv]], .row true 4 [zA]] := ⟨_, rfl⟩
  obtain ⟨ver, G1, hx, ⟨lv', t, hhd, hPt, hNt⟩, hnx⟩ := f102_putE (h.ext L0) hP hi hk
  have e1 := hnx.keep (G.key 1) _ (ne_key h.ok h.row 1) (by rw [hL0]; exact get_lit rfl)
  have e3 := hnx.keep (G.key 3) _ (ne_key h.ok h.row 3) (by rw [hL0]; exact get_lit rfl)
  have g3 := fun L => Heap.get_ext_old hhd.ok e3 L
  have s3 := fun b (l : List Blk) (α : Type) (c' : Heap → α) => Heap.setC_here hhd.ok e3 b l c'
  have k3 := fun b (l : List Blk) => Heap.get_set_here hhd.ok e3 b l
  have hne : G.key 3 ≠ G.key 1 := fun e => by
    have := congrArg K.toNat e
    rw [Heap.toNat_key, Heap.toNat_key] at this
    omega
  have o2 : ∀ b, (G1.set (G.key 3) b).ok := fun b => Heap.ok_set hhd.ok e3
  have e1' : ∀ b, (G1.set (G.key 3) b).get (G.key 1) = some (.row true 4 [[.int .i64 0, .str [], .int .i64 0, .nils]]) := fun b => by
    have := Heap.get_set_there hhd.ok e1 hne b []
    rwa [Heap.ext_nil] at this
  have g1 := fun b L => Heap.get_ext_old (o2 b) (e1' b) L
  have s1 := fun b b' (l : List Blk) (α : Type) (c' : Heap → α) => Heap.setC_here (o2 b) (e1' b) b' l c'
  have k1 := fun b b' (l : List Blk) => Heap.get_set_here (o2 b) (e1' b) b' l
  have hn3 : ∀ b, Nx k G (G1.set (G.key 3) b) := fun b => by
    have := ((Nx.ext h.ok _).trans hnx).cell h.ok hhd.ok e3 b []
    rwa [Heap.ext_nil] at this
  have hk' : ∀ L, (G.ext L).get k = _ := fun L => Heap.get_ext_old h.ok h.row L
  refine ⟨ver, _, ?a, ⟨lv', t, ((hhd.cell e3 ?b).cell (e1' ?b) ?c).ext ?d, hPt, hNt⟩, (hn3 ?b).cell h.ok (o2 ?b) (e1' ?b) ?c ?d⟩
  rw [hL0] at hx
  refine FnOk.of_WW Tryz.func49 rfl C49ok R49ok E0 good_E0 ?_
  simp only [go_sem, C49, hk']
  refine CL.of hx ?_
  rintro _ G' ⟨rfl, hG⟩; rw [hG]; clear hG
  refine WW.nil ?_
  simp only [go_sem, g3, s3, k3]
  refine CL.of (f105_none _) ?_
  rintro _ G' ⟨rfl, hG⟩; rw [hG]; clear hG
  simp only [go_sem]
  refine CL.of (f64_ok none 10) ?_
  rintro _ G' ⟨rfl, hG⟩; rw [hG]; clear hG
  simp only [go_sem, g3, s3, k3, g1, s1, k1]
  exact rfl
end
/-- the record of a put -/
def putL (i : Nat) (key : List Nat) : List AV := [.int .i64 2, .int .i64 0, .int .i64 ((i : Int) + 1), .int .i64 0, .int .i64 0, .int .i64 0, .int .i64 2, .str key, .str [], .str [118], .int .i64 0, .nils, .str [], .str [], .nils, .nils]
theorem cell_inj : ∀ {l m : List Cell}, l.map Cell.enc = m.map Cell.enc → l = m := fun h => (List.map_inj_right (fun a b e => by
  obtain ⟨⟩ := a
  obtain ⟨⟩ := b
  simp only [Cell.enc, List.cons.injEq, AV.int.injEq, AV.str.injEq, AV.bool.injEq, true_and, and_true] at e
  simp only [e])).1 h
theorem evn_inj : ∀ {l m : List Evn}, l.map Evn.enc = m.map Evn.enc → l = m := fun h => (List.map_inj_right (fun a b e => by
  obtain ⟨⟩ := a
  obtain ⟨⟩ := b
  simp only [Evn.enc, List.cons.injEq, AV.int.injEq, AV.str.injEq, AV.bool.injEq, true_and, and_true] at e
  simp only [e])).1 h
theorem isHd.same {k : K} {lv gv lv' gv' : AV} {gs gs' : List Gn} {s t : Sh} (h : isHd H k lv gv [s] gs) (g : isHd H k lv' gv' [t] gs') : s.cells = t.cells ∧ s.evs = t.evs ∧ s.fr = t.fr ∧ s.to = t.to := by
  have e := h.row
  rw [g.row] at e
  simp only [Option.some.injEq, Blk.row.injEq, List.cons.injEq, and_true, true_and] at e
  obtain ⟨rfl, rfl⟩ := e
  have u := h.l.uniq g.l (by decide)
  simp only [List.map_cons, List.map_nil, List.cons.injEq, and_true] at u
  have hs := h.each s (List.mem_singleton_self _)
  have ht := g.each t (List.mem_singleton_self _)
  simp only [Sh.enc, List.cons.injEq, AV.int.injEq, AV.str.injEq, AV.bool.injEq, true_and, and_true] at u
  obtain ⟨h1, h2, h3, h4, h5, h6, h7, h8⟩ := u
  exact ⟨cell_inj (hs.c.uniq (by rw [h6]; exact ht.c) (by decide)), evn_inj (hs.e.uniq (by rw [h7]; exact ht.e) (by decide)), h3, h4⟩
/-- what a put comes to -/
structure Puts (H : Heap) (args : List AV) (v : AV) (X : Heap) (k : K) (i : Nat) (key : List Nat) (s : Sh) : Prop where
  eq : args = [.ptr k 0, .agg (putL i key)]
  hd : ∃ lv, isHd H k lv .nils [s] []
  ok : FnOk Tryz.prog 49 args H fun r G' => r = v ∧ G' = X
  val : ∃ ver, v = .tup [.agg [.int .i64 0, .str [], .int .i64 ver, .nils], .nili]
  nxt : ∃ lv' t, isHd X k lv' .nils [t] [] ∧ PutI 1 false (i + 1) t ∧ Nxt s key i t
  nx : Nx k H X
open Classical in
/-- puts, known beforehand -/
noncomputable def EPu : FuncId → List AV → Heap → RC := fun f args H =>
  if h : f = 49 ∧ ∃ v X k i key s, Puts H args v X k i key s then .ok h.2.choose h.2.choose_spec.choose else .fail
theorem good_EPu : Ev.Good Tryz.prog EPu := by
  intro f args H r G he φ w args' ha hw
  refine (?_ : FnOk Tryz.prog f args H fun v' G' => v' = r ∧ G' = G).one φ w args' ha hw
  unfold EPu at he
  split at he
  · rename_i h
    obtain ⟨rfl, _⟩ := id h
    obtain ⟨k, i, key, s, hp⟩ := h.2.choose_spec.choose_spec
    cases he
    exact hp.ok
  · cases he
theorem epu49 {k : K} {lv : AV} {i : Nat} {s : Sh} {key : List Nat} (h : isHd H k lv .nils [s] []) (hP : PutI 1 false i s) (hi : i < 20) (hk : has s.fr s.to key) : ∃ ver X, EPu 49 [.ptr k 0, .agg (putL i key)] H = .ok (.tup [.agg [.int .i64 0, .str [], .int .i64 ver, .nils], .nili]) X ∧ (∃ lv' t, isHd X k lv' .nils [t] [] ∧ PutI 1 false (i + 1) t ∧ Nxt s key i t) ∧ Nx k H X := by
  have hx : 49 = 49 ∧ ∃ v X k' i' key' s', Puts H [.ptr k 0, .agg (putL i key)] v X k' i' key' s' := by
    obtain ⟨ver, X, h1, h2, h3⟩ := f49_putE h hP hi hk
    exact ⟨rfl, _, X, k, i, key, s, rfl, ⟨_, h⟩, h1, ⟨ver, rfl⟩, h2, h3⟩
  unfold EPu
  rw [dif_pos hx]
  obtain ⟨k', i', key', s', hp⟩ := hx.2.choose_spec.choose_spec
  generalize hx.2.choose_spec.choose = X at hp ⊢
  generalize hx.2.choose = v at hp ⊢
  have ea := hp.eq
  simp only [putL, List.cons.injEq, AV.ptr.injEq, AV.agg.injEq, AV.int.injEq, AV.str.injEq, and_true, true_and] at ea
  obtain ⟨rfl, e2, rfl⟩ := ea
  obtain rfl : i = i' := by omega
  obtain ⟨ver, rfl⟩ := hp.val
  obtain ⟨lv', t, h1, h2, h3⟩ := hp.nxt
  obtain ⟨lv2, h4⟩ := hp.hd
  obtain ⟨e3, e4, e5, e6⟩ := h4.same h
  exact ⟨ver, X, rfl, ⟨lv', t, h1, h2, by rw [← e3]; exact h3.cells, by rw [← e3, ← e4]; exact h3.evs, h3.span.1.trans e5, h3.span.2.trans e6⟩, hp.nx⟩
end Go.Proofs
/- A put noted by a node: walked. -/


set_option linter.all false
set_option maxRecDepth 100000
namespace Go.Proofs
open Go Go.Ev
variable {H : Heap}
section
variable {G : Heap} {kn kd kj kh : K}
/-- what there was is there still, but for some blocks -/
structure Kp (ks : List K) (G G' : Heap) : Prop where
  keep : ∀ j b, j ∉ ks → G.get j = some b → G'.get j = some b
  le : G.nx.toNat ≤ G'.nx.toNat
/-- another node is as it was -/
theorem isHd.other {G : Heap} {k : K} {lv gv : AV} {hs : List Sh} {gs : List Gn} {k2 : K} {G' : Heap} {lv2 gv2 : AV} {hs2 : List Sh} {gs2 : List Gn} (h : isHd G k lv gv hs gs) (h2 : isHd G k2 lv2 gv2 hs2 gs2) (hne : k2 ≠ k) (hok' : G'.ok) (hn : Nx k G G') : isHd G' k2 lv2 gv2 hs2 gs2 := by
  refine ⟨hok', hn.keep _ _ (Ne.symm hne) h2.row, hn.arr h.row (by decide) h2.l, ?_, fun s hs => hn.sh h.row (h2.each s hs) (h2.small s hs), h2.small, h2.few⟩
  rcases h2.g with ⟨e1, e2⟩ | ⟨j, off, ex, cap, rfl, hj, hx⟩
  · exact .inl ⟨e1, e2⟩
  · refine .inr ⟨j, off, ex, cap, rfl, Nat.lt_of_lt_of_le hj hn.le, fun hxs => ?_⟩
    obtain ⟨r, wr, rows, e1, e2, e3⟩ := hx hxs
    refine ⟨r, wr, rows, e1, hn.keep j _ (fun e => ?_) e2, e3⟩
    subst e
    rw [h.row] at e2
    cases e2
    have hl := h.l
    cases gs2 with
    | nil => exact hxs rfl
    | cons c l =>
      cases r with
      | zero =>
        have h6 := congrArg (fun z => z[0]?) e3
        simp only [List.map_cons, List.length_cons, List.drop_zero, List.take_succ_cons, List.getElem?_cons_zero, Gn.enc] at h6
        have h7 := Option.some.inj h6
        injection h7 with h7 _
        subst h7
        rcases hl with ⟨e, _⟩ | ⟨_, _, _, _, e, _⟩ <;> cases e
      | succ r => simp at e3
theorem Nx.kp {G G' : Heap} {i : Nat} {L : List Blk} (hok : G.ok) (h : Nx (G.key i) (G.ext L) G') : Kp [] G G' :=
  ⟨fun j b _ hb => h.keep j b (fun e => ne_key hok hb i e.symm) (Heap.get_ext_old hok hb L), Nat.le_trans (by rw [Heap.nx_ext, Heap.toNat_key]; exact Nat.le_add_right _ _) h.le⟩
theorem Kp.nx {G A B : Heap} {i : Nat} {L : List Blk} (h : Kp [] G A) (hok : G.ok) (hA : A.ok) (h2 : Nx (G.key i) (A.ext L) B) : Kp [] G B :=
  ⟨fun j b _ hb => h2.keep j b (fun e => ne_key hok hb i e.symm) (Heap.get_ext_old hA (h.keep j b List.not_mem_nil hb) L), Nat.le_trans h.le (Nat.le_trans (by rw [Heap.nx_ext, Heap.toNat_key]; exact Nat.le_add_right _ _) h2.le)⟩
theorem isHd.set2 {G : Heap} {k : K} {lv gv : AV} {hs : List Sh} {gs : List Gn} (h : isHd G k lv gv hs gs) {j : K} {wr : Bool} {x y : AV} (hj : G.get j = some (.row wr 2 [[x, y]])) (hx : ∀ n, x ≠ .int .i64 n) (hne : j ≠ k) (b : Blk) : isHd (G.set j b) k lv gv hs gs := by
  refine ⟨Heap.ok_set h.ok hj, ?_, h.l.set hj (by decide), ?_, fun s hs => ?_, h.small, h.few⟩
  · rw [Heap.get_set, if_neg hne]; exact h.row
  · rcases h.g with g | ⟨i, off, ex, cap, hv, hi, g⟩
    · exact .inl g
    · refine .inr ⟨i, off, ex, cap, hv, hi, fun hxs => ?_⟩
      obtain ⟨r, wr', rows', h1, h2, h3⟩ := g hxs
      refine ⟨r, wr', rows', h1, ?_, h3⟩
      rw [Heap.get_set, if_neg fun e => ?_]
      · exact h2
      · subst e
        rw [hj] at h2
        cases h2
        cases gs with
        | nil => exact hxs rfl
        | cons c l =>
          cases r with
          | zero =>
            have h6 := congrArg (fun z => z[0]?) h3
            simp only [List.map_cons, List.length_cons, List.drop_zero, List.take_succ_cons, List.getElem?_cons_zero, Gn.enc] at h6
            have h7 := Option.some.inj h6
            injection h7 with h7 _
            exact hx _ h7
          | succ r => simp at h3
  · have hs' := h.each s hs
    exact ⟨hs'.c.set hj (by decide), hs'.e.set hj (by decide), hs'.d.set hj (by decide), bareL.ok (h.small s hs).b _, hs'.cl, hs'.el, hs'.dl⟩
theorem f28_put {x0 wv x5 x6 x7 lv : AV} {bs T : List Nat} {n m i : Nat} {s : Sh} {key : List Nat} (hn : G.get kn = some (.row true 8 [[x0, .ptr kd 0, .ptr kj 0, .ptr kh 0, wv, x5, x6, x7]])) (hd : G.get kd = some (.row true 2 [[.str bs, .int .i64 n]])) (hj : G.get kj = some (.row true 2 [[.ptr kd 0, .int .i64 m]]))
    (hh : isHd G kh lv .nils [s] []) (hP : PutI 1 false i s) (hi : i < 20) (hk : has s.fr s.to key) (hB : ∀ J : Heap, FnOk Tryz.prog 53 [.agg (putL i key)] J fun r J' => r = .str T ∧ J' = J) (hT : T ≠ []) (hTl : T.length < 1000000) (hl : bs.length + (wrapT T).length ≤ 200000) (hnl : n ≤ bs.length) (hm : m < 1000000) :
    FnOk Tryz.prog 28 [.ptr kn 0, .agg (putL i key)] G fun r G' => (∃ ver, r = .tup [.agg [.int .i64 0, .str [], .int .i64 ver, .nils], .nili]) ∧
      G'.get kd = some (.row true 2 [[.str (bs ++ wrapT T), .int .i64 ((n + (wrapT T).length : Nat) : Int)]]) ∧ G'.get kj = some (.row true 2 [[.ptr kd 0, .int .i64 ((m + 1 : Nat) : Int)]]) ∧
      (∃ lv' t, isHd G' kh lv' .nils [t] [] ∧ PutI 1 false (i + 1) t ∧ Nxt s key i t) ∧ Kp [kd, kj, kh] G G' := by
  refine FnOk.of_WW Tryz.func28 rfl C28ok R28ok EPu good_EPu ?_
  have hn' := fun L => Heap.get_ext_old hh.ok hn L
  simp only [go_sem, C28, hn', putL]
  refine CL.of f26_ok ?_
  rintro _ G' ⟨rfl, hG⟩; rw [hG]; clear hG
  simp only [go_sem, hn']
  refine CL.of (f54_one (hh.ext _)) ?_
  rintro _ G1 ⟨c, cv, ev, dv, L, rfl, rfl, hA, ho⟩
  simp only [go_sem, hn', baseL, Heap.key_ext]
  have hF := (hh.ext [Blk.row true 16 [putL i key], .row true 4 [zA], .row true 2 [[.nils, .nils]]]).ext L
  have ht : isHd ((G.ext [Blk.row true 16 [putL i key], .row true 4 [zA], .row true 2 [[.nils, .nils]]]).ext L) (G.key 2) .nils .nils [] [] := ⟨hF.ok, get_lit2 rfl, .inl ⟨rfl, rfl⟩, .inl ⟨rfl, rfl⟩, by simp, by simp, by simp⟩
  have hPc := hP.cop cv ev dv
  refine CL.of (f49_base1 ht hA ho (hPc.sh (by omega) (by decide) (by decide)) (hPc.small (by omega))) ?_
  rintro _ G' ⟨rfl, ⟨lv2, cv2, ev2, dv2, ht2⟩, hnx⟩
  obtain ⟨G2, hG2⟩ : ∃ G2, G2 = G' := ⟨_, rfl⟩
  rw [← hG2] at ht2 hnx ⊢
  clear hG2
  have hk2 : kh ≠ G.key 2 := ne_key hh.ok hh.row 2
  have hh2 := ht.other hF hk2 ht2.ok hnx
  have n02 : G.key 2 ≠ G.key 0 := fun e => by
    have := congrArg K.toNat e
    rw [Heap.toNat_key, Heap.toNat_key] at this
    omega
  have n12 : G.key 2 ≠ G.key 1 := fun e => by
    have := congrArg K.toNat e
    rw [Heap.toNat_key, Heap.toNat_key] at this
    omega
  have e0 := hnx.keep (G.key 0) _ n02 (get_lit2 rfl)
  have e1 := hnx.keep (G.key 1) _ n12 (get_lit2 rfl)
  rw [Heap.ext_append] at hnx
  have kp2 := Nx.kp hh.ok hnx
  have hn2 := kp2.keep _ _ List.not_mem_nil hn
  have hd2 := kp2.keep _ _ List.not_mem_nil hd
  have hj2 := kp2.keep _ _ List.not_mem_nil hj
  have g0 := fun L => Heap.get_ext_old ht2.ok e0 L
  have g1 := fun L => Heap.get_ext_old ht2.ok e1 L
  have gn := fun L => Heap.get_ext_old ht2.ok hn2 L
  have hPc2 := hPc.cop cv2 ev2 dv2
  refine WW.nil ?_
  simp only [go_sem, putL, zA, g0, g1, gn]
  refine CL.of (f49_putX (ht2.ext _) hPc2 hi hk) ?_
  rintro _ G' ⟨⟨ver, rfl⟩, ⟨lv3, t3, ht3, -, -⟩, hnx3⟩
  obtain ⟨G3, hG3⟩ : ∃ G3, G3 = G' := ⟨_, rfl⟩
  rw [← hG3] at ht3 hnx3 ⊢
  clear hG3
  have hh3 := (ht2.ext _).other (hh2.ext _) hk2 ht3.ok hnx3
  have f0 := hnx3.keep (G.key 0) _ n02 (g0 _)
  have f1 := hnx3.keep (G.key 1) _ n12 (g1 _)
  have kp3 : Kp [] G G3 := kp2.nx hh.ok ht2.ok hnx3
  have hn3 := kp3.keep _ _ List.not_mem_nil hn
  have hd3 := kp3.keep _ _ List.not_mem_nil hd
  have hj3 := kp3.keep _ _ List.not_mem_nil hj
  have u0 := fun L => Heap.get_ext_old ht3.ok f0 L
  have u1 := fun L => Heap.get_ext_old ht3.ok f1 L
  have un := fun L => Heap.get_ext_old ht3.ok hn3 L
  refine WW.nil ?_
  simp only [go_sem, putL, zA, u0, u1, un]
  refine CL.of (hB _) ?_
  rintro _ G' ⟨rfl, hG⟩
  rw [hG]
  clear hG
  simp only [go_sem, putL, zA, u0, u1, un]
  refine ⟨fun h => absurd h hT, fun _ => ?_⟩
  have nkn : kd ≠ kn := by rintro rfl; rw [hn] at hd; cases hd
  have njn : kj ≠ kn := by rintro rfl; rw [hn] at hj; cases hj
  have nkj : kd ≠ kj := by rintro rfl; rw [hd] at hj; cases hj
  have nkh : kd ≠ kh := by have := hh.row; rintro rfl; rw [hd] at this; cases this
  have njh : kj ≠ kh := by have := hh.row; rintro rfl; rw [hj] at this; cases this
  have nhn : kh ≠ kn := by have := hh.row; rintro rfl; rw [hn] at this; cases this
  refine CL.of (f65_ok (Heap.get_ext_old ht3.ok hj3 _) (Heap.get_ext_old ht3.ok hd3 _) hl hnl hm hTl) ?_
  rintro _ G' ⟨rfl, hG⟩
  obtain ⟨G4, hG4⟩ : ∃ G4, G4 = G' := ⟨_, rfl⟩
  rw [← hG4] at hG ⊢
  clear hG4
  have keep4 : ∀ j b, kd ≠ j → kj ≠ j → G3.get j = some b → G4.get j = some b := fun j b h1 h2 h => by
    rw [hG, Heap.get_set, if_neg h2, Heap.get_set, if_neg h1]
    exact Heap.get_ext_old ht3.ok h _
  have hh4 : isHd G4 kh lv .nils [s] [] := by
    rw [hG]
    refine ((hh3.ext _).set2 (Heap.get_ext_old ht3.ok hd3 _) (by simp) nkh _).set2 (wr := true) (x := .ptr kd 0) (y := .int .i64 m) ?_ (by simp) njh _
    rw [Heap.get_set, if_neg nkj]
    exact Heap.get_ext_old ht3.ok hj3 _
  have m0 := keep4 _ _ (ne_key hh.ok hd 0) (ne_key hh.ok hj 0) f0
  have m1 := keep4 _ _ (ne_key hh.ok hd 1) (ne_key hh.ok hj 1) f1
  have mn := keep4 _ _ nkn njn hn3
  have md : G4.get kd = some (.row true 2 [[.str (bs ++ wrapT T), .int .i64 ((n + (wrapT T).length : Nat) : Int)]]) := by rw [hG, Heap.get_set, if_neg (Ne.symm nkj), Heap.get_set, if_pos rfl]
  have mj : G4.get kj = some (.row true 2 [[.ptr kd 0, .int .i64 ((m + 1 : Nat) : Int)]]) := by rw [hG, Heap.get_set, if_pos rfl]
  have kp4 : Kp [kd, kj, kh] G G4 := ⟨fun j b hj' hb => keep4 _ _ (by rintro rfl; simp at hj') (by rintro rfl; simp at hj') (kp3.keep j b List.not_mem_nil hb), by rw [hG]; exact Nat.le_trans kp3.le (by rw [Heap.nx_set, Heap.nx_set, Heap.nx_ext, Heap.toNat_key]; exact Nat.le_add_right _ _)⟩
  have v0 := fun L => Heap.get_ext_old hh4.ok m0 L
  have v1 := fun L => Heap.get_ext_old hh4.ok m1 L
  have vn := fun L => Heap.get_ext_old hh4.ok mn L
  clear hG
  obtain ⟨ver', G5, he, ⟨lv5, t, ht5, hPt, hNt⟩, hnx5⟩ := epu49 (hh4.ext []) hP hi hk
  simp only [putL] at he
  have w1 := hnx5.keep _ _ (ne_key hh.ok hh.row 1) (v1 [])
  have wd := hnx5.keep _ _ (Ne.symm nkh) (Heap.get_ext_old hh4.ok md [])
  have wj := hnx5.keep _ _ (Ne.symm njh) (Heap.get_ext_old hh4.ok mj [])
  simp only [zA] at w1
  have s1 : ∀ b (α : Type) (c' : Heap → α), G5.setC (G.key 1) b c' = c' (G5.set (G.key 1) b) := fun b α c' => by
    have := Heap.setC_here ht5.ok w1 b [] c'
    rwa [Heap.ext_nil, Heap.ext_nil] at this
  have k1 : ∀ b, (G5.set (G.key 1) b).get (G.key 1) = some b := fun b => by rw [Heap.get_set, if_pos rfl]
  refine WW.nil ?_
  simp only [go_sem, putL, zA, v0, v1, vn, he, w1, s1, k1]
  have oo : ∀ b, (G5.set (G.key 1) b).ok := fun b => Heap.ok_set ht5.ok w1
  have kp5 : ∀ b, Kp [kd, kj, kh] G (G5.set (G.key 1) b) := fun b => ⟨fun j c hj' hb => by
    rw [Heap.get_set, if_neg fun e => ne_key hh.ok hb 1 e.symm]
    refine hnx5.keep j c (by rintro rfl; simp at hj') ?_
    rw [Heap.ext_nil]
    exact kp4.keep j c hj' hb, Nat.le_trans kp4.le (by rw [Heap.nx_set]; have := hnx5.le; rwa [Heap.ext_nil] at this)⟩
  refine ⟨⟨ver', rfl⟩, ?_, ?_, ⟨lv5, t, ht5.cell w1 _, hPt, hNt⟩, kp5 _⟩
  · rw [Heap.get_set, if_neg fun e => ne_key hh.ok hd 1 e.symm]; exact wd
  · rw [Heap.get_set, if_neg fun e => ne_key hh.ok hj 1 e.symm]; exact wj
end
end Go.Proofs
