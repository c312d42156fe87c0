/- rows of one cell; a state of ShardKeys' loop. -/
import Derived.Test.YtomljpdjfobeoaaGreatDoorZ24
set_option linter.all false
set_option linter.all false
set_option maxRecDepth 100000
namespace Go.Proofs
open Go Go.Ev
variable {H : Heap}

theorem readC_one {β : Type} (f : β) (rows : List (List AV)) (k : Nat) (c : List AV → β) : readC f 1 rows k 1 c = optC rows[k]? f c := by
  have h := readC_at0 f 1 rows k 1 c (by decide) (Nat.le_refl _)
  rw [Nat.mul_one] at h
  exact h
theorem writeC_one {β : Type} (f : β) (rows : List (List AV)) (k : Nat) (v : AV) (c : List (List AV) → β) : writeC f 1 rows k [v] c = optC rows[k]? f fun _ => c (rows.set k [v]) := by
  have h := writeC_at0 f 1 rows [v] k c (by decide) (Nat.le_refl _)
  rw [Nat.mul_one] at h
  exact h
/-- rows of one cell each -/
def rS (l : List (List Nat)) : List (List AV) := l.map fun x => [.str x]
def rN (l : List Int) : List (List AV) := l.map fun x => [.int .i64 x]
def rB (l : List Bool) : List (List AV) := l.map fun x => [.bool x]
theorem rS_at {l : List (List Nat)} {k : Nat} {x : List Nat} (h : l[k]? = some x) : (rS l)[k]? = some [.str x] := by unfold rS; rw [List.getElem?_map, h]; rfl
theorem rN_at {l : List Int} {k : Nat} {x : Int} (h : l[k]? = some x) : (rN l)[k]? = some [.int .i64 x] := by unfold rN; rw [List.getElem?_map, h]; rfl
theorem rB_at {l : List Bool} {k : Nat} {x : Bool} (h : l[k]? = some x) : (rB l)[k]? = some [.bool x] := by unfold rB; rw [List.getElem?_map, h]; rfl
theorem rS_set (l : List (List Nat)) (k : Nat) (x : List Nat) : (rS l).set k [.str x] = rS (l.set k x) := by unfold rS; rw [List.map_set]
theorem rN_set (l : List Int) (k : Nat) (x : Int) : (rN l).set k [.int .i64 x] = rN (l.set k x) := by unfold rN; rw [List.map_set]
theorem rB_set (l : List Bool) (k : Nat) (x : Bool) : (rB l).set k [.bool x] = rB (l.set k x) := by unfold rB; rw [List.map_set]
theorem rS_rens (ρ : K → K) (l : List (List Nat)) : (rS l).map (AV.rens ρ) = rS l := by unfold rS; rw [List.map_map]; exact List.map_congr_left fun x _ => by simp only [Function.comp, AV.rens, AV.ren]
theorem rN_rens (ρ : K → K) (l : List Int) : (rN l).map (AV.rens ρ) = rN l := by unfold rN; rw [List.map_map]; exact List.map_congr_left fun x _ => by simp only [Function.comp, AV.rens, AV.ren]
theorem rB_rens (ρ : K → K) (l : List Bool) : (rB l).map (AV.rens ρ) = rB l := by unfold rB; rw [List.map_map]; exact List.map_congr_left fun x _ => by simp only [Function.comp, AV.rens, AV.ren]
theorem rS_ren (ρ : K → K) (l : List (List Nat)) : Blk.ren ρ (.row true 1 (rS l)) = .row true 1 (rS l) := by show Blk.row true 1 ((rS l).map (AV.rens ρ)) = _; rw [rS_rens]
theorem rN_ren (ρ : K → K) (l : List Int) : Blk.ren ρ (.row true 1 (rN l)) = .row true 1 (rN l) := by show Blk.row true 1 ((rN l).map (AV.rens ρ)) = _; rw [rN_rens]
theorem rB_ren (ρ : K → K) (l : List Bool) : Blk.ren ρ (.row true 1 (rB l)) = .row true 1 (rB l) := by show Blk.row true 1 ((rB l).map (AV.rens ρ)) = _; rw [rB_rens]
/-- and of two numbers, bit by bit -/
def andI (a b : Int) : Int := IntKind.i64.wrap ((BitVec.ofInt IntKind.i64.bits a &&& BitVec.ofInt IntKind.i64.bits b).toNat : Int)
@[go_sem high] theorem bin_andI {β : Type} (P : Program) (ek : Go.Ev.EK) (pk : Option (List LK)) (lit : Bool) (a b : Int) (f : β) (c : AV → β) : binV P ek pk lit .and (.int .i64 a) (.int .i64 b) f c = c (.int .i64 (andI a b)) := bin_and ..
theorem and_one (a : Int) : ∃ w : Int, (w = 0 ∨ w = 1) ∧ andI a 1 = w := by
  have h : (BitVec.ofInt IntKind.i64.bits a &&& BitVec.ofInt IntKind.i64.bits 1).toNat ≤ 1 := by rw [BitVec.toNat_and]; exact Nat.le_trans Nat.and_le_right (by decide)
  exact ⟨_, by omega, wrap_i64 (by omega) (by omega)⟩
/-- a state of the loop -/
structure St where
  i : Nat
  vs : List (List Nat)
  ns : List Int
  bs : List Bool
  s : Sh
/-- a state, and where the shard's lists lie -/
structure StM (H : Heap) (a b n : Nat) (q : St) : Prop where
  le : q.i ≤ n
  at_ : AtM q.i q.vs q.ns q.bs q.s
  cv : q.s.cv = outV (H.key a) 5 q.s.cells.length
  ev : q.s.ev = outV (H.key b) 4 q.s.evs.length
  dv : q.s.dv = .nils
noncomputable def blM (q : St) : List Blk := [.row true 8 [q.s.enc], .row true 1 (rS q.vs), .row true 1 (rN q.ns), .row true 1 (rB q.bs), outB 5 (q.s.cells.map Cell.enc), outB 4 (q.s.evs.map Evn.enc)]
theorem StM.ok {a b n : Nat} (hn : n ≤ 60) {q : St} (h : StM H a b n q) {L : List Blk} (h1 : L[a]? = some (outB 5 (q.s.cells.map Cell.enc))) (h2 : L[b]? = some (outB 4 (q.s.evs.map Evn.enc))) : q.s.ok (H.ext L) where
  c := by rw [h.cv]; exact arr_outV h1 (List.length_map ..)
  e := by rw [h.ev]; exact arr_outV h2 (List.length_map ..)
  d := .inl ⟨h.dv, by rw [h.at_.done]; rfl⟩
  dok := fun d hd => by rw [h.at_.done] at hd; cases hd
  cl := by have := h.at_.cl; have := h.le; omega
  el := by have := h.at_.el; omega
  dl := by rw [h.at_.done]; exact Nat.lt_of_sub_eq_succ rfl
/-- a shard whose lists lie elsewhere -/
noncomputable def Sh.lie (s : Sh) (k0 k1 : K) : Sh := ⟨s.id, s.ep, s.fr, s.to, s.frz, s.cells, s.evs, s.done, outV k0 5 s.cells.length, outV k1 4 s.evs.length, s.dv⟩
theorem StM.lie {a b n : Nat} {q : St} (h : StM H a b n q) (c d : Nat) : StM H c d n ⟨q.i, q.vs, q.ns, q.bs, q.s.lie (H.key c) (H.key d)⟩ :=
  ⟨h.le, ⟨h.at_.hd, h.at_.hist, h.at_.keys, h.at_.done, h.at_.el, h.at_.cl, h.at_.lv, h.at_.ln, h.at_.lb, h.at_.map⟩, rfl, rfl, h.dv⟩
theorem StM.stay {a b n i : Nat} {vs : List (List Nat)} {ns : List Int} {bs : List Bool} {s : Sh} (h : StM H a b n ⟨i, vs, ns, bs, s⟩) (hlt : i < n) : StM H a b n ⟨i + 1, vs, ns, bs, s⟩ := ⟨hlt, h.at_.stay, h.cv, h.ev, h.dv⟩
theorem StM.put {a b n i : Nat} {vs : List (List Nat)} {ns : List Int} {bs : List Bool} {s : Sh} (h : StM H a b n ⟨i, vs, ns, bs, s⟩) (hn : n ≤ 60) (hlt : i < n) {k : Nat} (hk : k < 8) {m : Int} (hm : (getL s.cells (ky k)).1.ver = m) {v : List Nat} (hv : (v.length : Int) ≤ 12) {d : Bool} (hd : d = true → v = []) (c e : Nat) :
    StM H c e n ⟨i + 1, vs.set k v, ns.set k (m + 1), bs.set k (!d), addS s (nextC s.cells (ky k) v d) (nextE s.cells (ky k) v d) (H.key c) (H.key e)⟩ := by
  subst hm
  refine ⟨hlt, h.at_.put (by show i < 1000; omega) hk hv hd _ _, ?_, rfl, h.dv⟩
  show outV _ 5 (refW _ _).length = outV _ 5 (keepC _ _).length
  rw [keepC_len]
/-- what a request that changes a key hands back -/
def Chg (H : Heap) (L : List Blk) (n i : Nat) (vs : List (List Nat)) (ns : List Int) (bs : List Bool) (m : Int) (r : AV) (G : Heap) : Prop :=
  ∃ s', r = .tup [.agg s'.enc, .agg [.int .i64 0, .str [], .int .i64 m, .nils]] ∧ G = H.ext (L ++ [outB 5 (s'.cells.map Cell.enc), outB 4 (s'.evs.map Evn.enc)]) ∧ StM H L.length (L.length + 1) n ⟨i + 1, vs, ns, bs, s'⟩
theorem call_put {a b n i : Nat} {vs : List (List Nat)} {ns : List Int} {bs : List Bool} {s : Sh} (h : StM H a b n ⟨i, vs, ns, bs, s⟩) (hn : n ≤ 60) {L : List Blk} (h1 : L[a]? = some (outB 5 (s.cells.map Cell.enc))) (h2 : L[b]? = some (outB 4 (s.evs.map Evn.enc))) {k : Nat} (hk : k < 8) (hlt : i < n) {m : Int} (hm : ns[k]? = some m) {v : List Nat} (hv : (v.length : Int) ≤ 12) :
    FnOk Tryz.prog 21 [.agg s.enc, .agg [.int .i64 2, .str [97 + k], .str [], .str v, .int .i64 0, .nils]] (H.ext L) (Chg H L n i (vs.set k v) (ns.set k (m + 1)) (bs.set k true) (m + 1)) := by
  have hv0 := (cell_of h.at_.hist (ky k)).2.1; have hle := h.le; have hel := h.at_.el; have hcl := h.at_.cl; obtain ⟨m1, m2, m3, m4⟩ := h.at_.map k _ hk rfl; dsimp only at hle hel hcl m1 m2 m3 m4 hv0
  obtain rfl : (getL s.cells (ky k)).1.ver = m := Option.some.inj (m2.symm.trans hm)
  refine (f21_put (s := s) (k := ky k) (h.ok hn h1 h2) h.ev (by omega) (by omega) (ky_key k) hv h.at_.hist (by omega)).mono ?_
  rintro r G ⟨rfl, rfl⟩
  rw [Heap.key_ext, Heap.key_ext, Heap.ext_append]
  exact ⟨_, rfl, rfl, h.put hn hlt hk rfl hv (d := false) (fun h => absurd h Bool.false_ne_true) _ _⟩
theorem call_del {a b n i : Nat} {vs : List (List Nat)} {ns : List Int} {bs : List Bool} {s : Sh} (h : StM H a b n ⟨i, vs, ns, bs, s⟩) (hn : n ≤ 60) {L : List Blk} (h1 : L[a]? = some (outB 5 (s.cells.map Cell.enc))) (h2 : L[b]? = some (outB 4 (s.evs.map Evn.enc))) {k : Nat} (hk : k < 8) (hlt : i < n) {m : Int} (hm : ns[k]? = some m) (hb : bs[k]? = some true) :
    FnOk Tryz.prog 21 [.agg s.enc, .agg [.int .i64 3, .str [97 + k], .str [], .str [], .int .i64 0, .nils]] (H.ext L) (Chg H L n i (vs.set k []) (ns.set k (m + 1)) (bs.set k false) (m + 1)) := by
  have hv0 := (cell_of h.at_.hist (ky k)).2.1; have hle := h.le; have hel := h.at_.el; have hcl := h.at_.cl; obtain ⟨m1, m2, m3, m4⟩ := h.at_.map k _ hk rfl; dsimp only at hle hel hcl m1 m2 m3 m4 hv0
  obtain rfl : (getL s.cells (ky k)).1.ver = m := Option.some.inj (m2.symm.trans hm)
  have hth : there (getL s.cells (ky k)).1 := of_decide_eq_true (Option.some.inj (m3.symm.trans hb))
  refine (f21_del (s := s) (k := ky k) (h.ok hn h1 h2) h.ev (by omega) (by omega) (ky_key k) h.at_.hist (by omega) hth).mono ?_
  rintro r G ⟨rfl, rfl⟩
  rw [Heap.key_ext, Heap.key_ext, Heap.ext_append]
  exact ⟨_, rfl, rfl, h.put hn hlt hk rfl (by decide) (d := true) (fun _ => rfl) _ _⟩
theorem call_none {a b n i : Nat} {vs : List (List Nat)} {ns : List Int} {bs : List Bool} {s : Sh} (h : StM H a b n ⟨i, vs, ns, bs, s⟩) (hn : n ≤ 60) {L : List Blk} (h1 : L[a]? = some (outB 5 (s.cells.map Cell.enc))) (h2 : L[b]? = some (outB 4 (s.evs.map Evn.enc))) {k : Nat} (hk : k < 8) {m : Int} (hm : ns[k]? = some m) (hb : bs[k]? = some false) :
    FnOk Tryz.prog 21 [.agg s.enc, .agg [.int .i64 3, .str [97 + k], .str [], .str [], .int .i64 0, .nils]] (H.ext L) fun r G => r = .tup [.agg s.enc, .agg [.int .i64 14, .str [], .int .i64 m, .nils]] ∧ G = H.ext L := by
  have hv0 := (cell_of h.at_.hist (ky k)).2.1; have hle := h.le; have hel := h.at_.el; have hcl := h.at_.cl; obtain ⟨m1, m2, m3, m4⟩ := h.at_.map k _ hk rfl; dsimp only at hle hel hcl m1 m2 m3 m4 hv0
  obtain rfl : (getL s.cells (ky k)).1.ver = m := Option.some.inj (m2.symm.trans hm)
  have hth : ¬ there (getL s.cells (ky k)).1 := of_decide_eq_false (Option.some.inj (m3.symm.trans hb))
  exact f21_none (s := s) (k := ky k) (h.ok hn h1 h2) (ky_key k) hv0 (by omega) hth
theorem call_cas {a b n i : Nat} {vs : List (List Nat)} {ns : List Int} {bs : List Bool} {s : Sh} (h : StM H a b n ⟨i, vs, ns, bs, s⟩) (hn : n ≤ 60) {L : List Blk} (h1 : L[a]? = some (outB 5 (s.cells.map Cell.enc))) (h2 : L[b]? = some (outB 4 (s.evs.map Evn.enc))) {k : Nat} (hk : k < 8) (hlt : i < n) {m : Int} (hm : ns[k]? = some m) {v : List Nat} (hv : (v.length : Int) ≤ 12) :
    FnOk Tryz.prog 21 [.agg s.enc, .agg [.int .i64 4, .str [97 + k], .str [], .str v, .int .i64 m, .nils]] (H.ext L) (Chg H L n i (vs.set k v) (ns.set k (m + 1)) (bs.set k true) (m + 1)) := by
  have hv0 := (cell_of h.at_.hist (ky k)).2.1; have hle := h.le; have hel := h.at_.el; have hcl := h.at_.cl; obtain ⟨m1, m2, m3, m4⟩ := h.at_.map k _ hk rfl; dsimp only at hle hel hcl m1 m2 m3 m4 hv0
  obtain rfl : (getL s.cells (ky k)).1.ver = m := Option.some.inj (m2.symm.trans hm)
  refine (f21_cas (s := s) (k := ky k) (h.ok hn h1 h2) h.ev (by omega) (by omega) (ky_key k) hv h.at_.hist (by omega) hv0).mono ?_
  rintro r G ⟨rfl, rfl⟩
  rw [Heap.key_ext, Heap.key_ext, Heap.ext_append]
  exact ⟨_, rfl, rfl, h.put hn hlt hk rfl hv (d := false) (fun h => absurd h Bool.false_ne_true) _ _⟩
theorem call_clash {a b n i : Nat} {vs : List (List Nat)} {ns : List Int} {bs : List Bool} {s : Sh} (h : StM H a b n ⟨i, vs, ns, bs, s⟩) (hn : n ≤ 60) {L : List Blk} (h1 : L[a]? = some (outB 5 (s.cells.map Cell.enc))) (h2 : L[b]? = some (outB 4 (s.evs.map Evn.enc))) {k : Nat} (hk : k < 8) {m : Int} (hm : ns[k]? = some m) {v : List Nat} (hv : (v.length : Int) ≤ 12) {w : Int} (hw : ¬ m = w) (hw0 : 0 ≤ w) (hw1 : w ≤ 1000) :
    FnOk Tryz.prog 21 [.agg s.enc, .agg [.int .i64 4, .str [97 + k], .str [], .str v, .int .i64 w, .nils]] (H.ext L) fun r G => r = .tup [.agg s.enc, .agg [.int .i64 15, .str [], .int .i64 m, .nils]] ∧ G = H.ext L := by
  have hv0 := (cell_of h.at_.hist (ky k)).2.1; have hle := h.le; have hel := h.at_.el; have hcl := h.at_.cl; obtain ⟨m1, m2, m3, m4⟩ := h.at_.map k _ hk rfl; dsimp only at hle hel hcl m1 m2 m3 m4 hv0
  obtain rfl : (getL s.cells (ky k)).1.ver = m := Option.some.inj (m2.symm.trans hm)
  exact f21_clash (s := s) (k := ky k) (h.ok hn h1 h2) (ky_key k) hw hv hw0 (by omega)
theorem call_yes {a b n i : Nat} {vs : List (List Nat)} {ns : List Int} {bs : List Bool} {s : Sh} (h : StM H a b n ⟨i, vs, ns, bs, s⟩) (hn : n ≤ 60) {L : List Blk} (h1 : L[a]? = some (outB 5 (s.cells.map Cell.enc))) (h2 : L[b]? = some (outB 4 (s.evs.map Evn.enc))) {k : Nat} (hk : k < 8) {m : Int} (hm : ns[k]? = some m) {x : List Nat} (hx : vs[k]? = some x) (hb : bs[k]? = some true) :
    FnOk Tryz.prog 21 [.agg s.enc, .agg [.int .i64 1, .str [97 + k], .str [], .str [], .int .i64 0, .nils]] (H.ext L) fun r G => r = .tup [.agg s.enc, .agg [.int .i64 0, .str x, .int .i64 m, .nils]] ∧ G = H.ext L := by
  have hv0 := (cell_of h.at_.hist (ky k)).2.1; have hle := h.le; have hel := h.at_.el; have hcl := h.at_.cl; obtain ⟨m1, m2, m3, m4⟩ := h.at_.map k _ hk rfl; dsimp only at hle hel hcl m1 m2 m3 m4 hv0
  obtain rfl : (getL s.cells (ky k)).1.ver = m := Option.some.inj (m2.symm.trans hm)
  obtain rfl : (getL s.cells (ky k)).1.value = x := Option.some.inj (m1.symm.trans hx)
  have hth : there (getL s.cells (ky k)).1 := of_decide_eq_true (Option.some.inj (m3.symm.trans hb))
  have hg : getA (getL s.cells (ky k)).1 = [.int .i64 0, .str (getL s.cells (ky k)).1.value, .int .i64 (getL s.cells (ky k)).1.ver, .nils] := if_pos hth
  rw [← hg]
  exact f21_get (s := s) (k := ky k) (h.ok hn h1 h2) (ky_key k)
theorem call_no {a b n i : Nat} {vs : List (List Nat)} {ns : List Int} {bs : List Bool} {s : Sh} (h : StM H a b n ⟨i, vs, ns, bs, s⟩) (hn : n ≤ 60) {L : List Blk} (h1 : L[a]? = some (outB 5 (s.cells.map Cell.enc))) (h2 : L[b]? = some (outB 4 (s.evs.map Evn.enc))) {k : Nat} (hk : k < 8) {m : Int} (hm : ns[k]? = some m) (hb : bs[k]? = some false) :
    FnOk Tryz.prog 21 [.agg s.enc, .agg [.int .i64 1, .str [97 + k], .str [], .str [], .int .i64 0, .nils]] (H.ext L) fun r G => r = .tup [.agg s.enc, .agg [.int .i64 14, .str [], .int .i64 m, .nils]] ∧ G = H.ext L := by
  have hv0 := (cell_of h.at_.hist (ky k)).2.1; have hle := h.le; have hel := h.at_.el; have hcl := h.at_.cl; obtain ⟨m1, m2, m3, m4⟩ := h.at_.map k _ hk rfl; dsimp only at hle hel hcl m1 m2 m3 m4 hv0
  obtain rfl : (getL s.cells (ky k)).1.ver = m := Option.some.inj (m2.symm.trans hm)
  have hth : ¬ there (getL s.cells (ky k)).1 := of_decide_eq_false (Option.some.inj (m3.symm.trans hb))
  have hg : getA (getL s.cells (ky k)).1 = [.int .i64 14, .str [], .int .i64 (getL s.cells (ky k)).1.ver, .nils] := if_neg hth
  rw [← hg]
  exact f21_get (s := s) (k := ky k) (h.ok hn h1 h2) (ky_key k)
theorem StM.val {a b n i : Nat} {vs : List (List Nat)} {ns : List Int} {bs : List Bool} {s : Sh} (h : StM H a b n ⟨i, vs, ns, bs, s⟩) {k : Nat} (hk : k < 8) : ∃ x m t, vs[k]? = some x ∧ ns[k]? = some m ∧ bs[k]? = some t ∧ 0 ≤ m ∧ m ≤ n ∧ (t = false → x = []) := by
  have hv0 := (cell_of h.at_.hist (ky k)).2.1; have hle := h.le; have hel := h.at_.el; have hcl := h.at_.cl; obtain ⟨m1, m2, m3, m4⟩ := h.at_.map k _ hk rfl; dsimp only at hle hel hcl m1 m2 m3 m4 hv0
  refine ⟨_, _, _, m1, m2, m3, hv0, by omega, fun ht => ?_⟩
  have := (h.at_.none hk (of_decide_eq_false ht)).1
  have h2 : (vs.set k [])[k]? = some [] := List.getElem?_set_self (by have := h.at_.lv; dsimp only at this; omega)
  dsimp only at this
  rw [this, m1] at h2
  exact Option.some.inj h2
end Go.Proofs
/- ShardKeys: a step without a key: walked. -/

set_option linter.all false
set_option linter.all false
set_option maxRecDepth 100000
namespace Go.Proofs
open Go Go.Ev
variable {H : Heap}

theorem step_none {v : AV} {l : List Sp5} (hA : Arr H 8 v (l.map Sp5.enc)) (hok : H.ok) (hl60 : l.length ≤ 60) {i : Nat} {vs : List (List Nat)} {ns : List Int} {bs : List Bool} {s : Sh} (hst : StM H 4 5 l.length ⟨i, vs, ns, bs, s⟩) (hlt : i < l.length) (hkey : l[i].key = []) (R : Ex → Tr AV → Heap → Prop) :
    WW Tryz.prog E0 Tryz.f5.ntmps H [.code C5L0] (trOf [(.z, v), ((.o (.o .z)), .ptr (H.key 0) 0), ((.i (.o .z)), .ptr (H.key 1) 0), ((.o (.i .z)), .ptr (H.key 2) 0), ((.i (.i .z)), .ptr (H.key 3) 0), ((.o (.o (.o .z))), .int .i64 i)]) (H.ext (blM ⟨i, vs, ns, bs, s⟩)) (behind (NextR H (fun q : St => l.length - q.i) (StM H 4 5 l.length) (fun q => [(.z, v), ((.o (.o .z)), .ptr (H.key 0) 0), ((.i (.o .z)), .ptr (H.key 1) 0), ((.o (.i .z)), .ptr (H.key 2) 0), ((.i (.i .z)), .ptr (H.key 3) 0), ((.o (.o (.o .z))), .int .i64 q.i)]) blM ⟨i, vs, ns, bs, s⟩) R) := by
  have hren := hA.ren
  obtain ⟨hi, hat, hcv, hev, hdv⟩ := id hst
  dsimp only at hi hat hcv hev hdv
  have hci : (i : Int) < (l.length : Int) := by omega
  have hw := wrap_succ (n := i) (by omega)
  obtain ⟨kk, r, ex', cap', wr, rows, hv, hrho, hgo, hrow⟩ := hA.at hok (j := i) (by rw [List.length_map]; exact hlt)
  simp only [List.length_map, List.getElem_map] at hv hrow
  generalize hp : l[i] = p at hrow
  obtain ⟨who, dy, kind, key, to, val, ver, wv⟩ := p
  rw [hp] at hkey
  obtain rfl : key = [] := hkey
  have hsi : i + 1 ≤ l.length := (by omega)
  have hwb : ∀ n : Nat, n ≤ 200 → IntKind.u8.wrap (n : Int) = n := fun n h => wrap_u8 (by omega)
  have h8 : (i : Int).tmod 8 = ((i % 8 : Nat) : Int) := by rw [Int.tmod_eq_emod_of_nonneg (by omega)]; rfl
  have h26 : (i : Int).tmod 26 = ((i % 26 : Nat) : Int) := by rw [Int.tmod_eq_emod_of_nonneg (by omega)]; rfl
  have hwa : IntKind.i64.wrap (65 + ((i % 26 : Nat) : Int)) = ((65 + i % 26 : Nat) : Int) := by rw [wrap_i64 (by omega) (by omega)]; omega
  have hwc := hwb (65 + i % 26) (by omega)
  have hby := fun (f : R1) c => bytesC_one (m := 65 + i % 26) (by omega) f c
  obtain ⟨k, hk⟩ : ∃ k, k = i % 8 := ⟨_, rfl⟩
  rw [← hk] at h8
  have hk8 : k < 8 := by omega
  have hlk := True.intro
  have hk7 : k ≤ 7 := by omega
  have hwk0 : IntKind.i64.wrap (k : Int) = (k : Int) := wrap_i64 (by omega) (by omega)
  have hwk : IntKind.i64.wrap (97 + (k : Int)) = ((97 + k : Nat) : Int) := by rw [wrap_i64 (by omega) (by omega)]; omega
  have hwk2 := hwb (97 + k) (by omega)
  have hbyk := fun (f : R1) c => bytesC_one (m := 97 + k) (by omega) f c
  obtain ⟨w1, hw1, hwho⟩ := and_one who
  obtain ⟨x, m, t, hx, hm, ht, hm0, hm1, hxt⟩ := hst.val hk8
  have hlv := hat.lv
  have hln := hat.ln
  have hlb := hat.lb
  have hvS := rS_at hx
  have hvN := rN_at hm
  have hvB := rB_at ht
  have hx' : ∀ y, (vs.set k y)[k]? = some y := fun y => List.getElem?_set_self (by omega)
  have hm' : ∀ y, (ns.set k y)[k]? = some y := fun y => List.getElem?_set_self (by omega)
  have ht' : ∀ y, (bs.set k y)[k]? = some y := fun y => List.getElem?_set_self (by omega)
  have hvS' := fun y => rS_at (hx' y)
  have hvN' := fun y => rN_at (hm' y)
  have hvB' := fun y => rB_at (ht' y)
  have hwm : IntKind.i64.wrap (m + 1) = m + 1 := wrap_i64 (by omega) (by omega)
  have hwmw : IntKind.i64.wrap (m - w1) = m - w1 := wrap_i64 (by omega) (by omega)
  have hl12 : (([65 + i % 26] : List Nat).length : Int) ≤ 12 := by show (1 : Int) ≤ 12; decide
  cases t
  · obtain rfl := hxt rfl
    have hvs : vs.set k [] = vs := set_same hx
    have hbs : bs.set k false = bs := set_same ht
    simp only [go_sem, C5L0, hv, hci, hsi, hgo, hrow, hw, Sp5.enc, off8, blM, Sh.enc, h8, h26, hwa, hwc, hby, hwk0, hlk, hwk, hwk2, hbyk, hk7, hvN, hvS, hvB, hwho, hwmw, readC_one, writeC_one, rS_set, rN_set, rB_set, Nat.mul_one, Nat.zero_add]
    refine ⟨fun h0 => ?_, fun h0 => ⟨fun h1 => ?_, fun h1 => ⟨fun h2 => ?_, fun h2 => ?_⟩⟩⟩
    · refine CL.of (call_put hst hl60 (by rfl) (by rfl) hk8 hlt hm hl12) ?_
      rintro _ _ ⟨s', rfl, rfl, hst'⟩
      replace hst' : StM H 10 11 l.length _ := hst'
      have hcv' := hst'.cv
      have hev' := hst'.ev
      have hdv' := hst'.dv
      dsimp only at hcv' hev' hdv'
      simp only [go_sem, Sh.enc, hk7, hvN, hvS, hvB, hvN', hvS', hvB', hwm, hw, readC_one, writeC_one, rS_set, rN_set, rB_set, Nat.mul_one, Nat.zero_add]
      refine CL.of (call_yes hst' hl60 (by rfl) (by rfl) hk8 (hm' _) (hx' _) (ht' _)) ?_
      rintro _ _ ⟨rfl, rfl⟩
      simp only [go_sem, Sh.enc, hk7, hvN, hvS, hvB, hvN', hvS', hvB', hwm, hw, readC_one, writeC_one, rS_set, rN_set, rB_set, Nat.mul_one, Nat.zero_add]
      exact ⟨⟨i + 1, vs.set k [65 + i % 26], ns.set k (m + 1), bs.set k true, s'.lie (H.key 4) (H.key 5)⟩, by show l.length - (i + 1) < l.length - i; omega, hst'.lie 4 5, _, [0, 1, 2, 3, 10, 11], rfl, Wk.of rfl (by decide) (by simp only [go_sem, hrho, hv]; first | done | rfl | trace_state) (by simp only [go_sem, blM, Sh.enc, Sh.lie, hcv', hev', hdv', outV_ren', ↓outB_ren', Cell.map_rens, Evn.map_rens, ↓rS_ren, ↓rN_ren, ↓rB_ren, implies_true]; first | done | trace_state)⟩
    · refine CL.of (call_none hst hl60 (by rfl) (by rfl) hk8 hm ht) ?_
      rintro _ _ ⟨rfl, rfl⟩
      simp only [go_sem, Sh.enc, hk7, hvN, hvS, hvB, hvN', hvS', hvB', hwm, hw, hvs, hbs, readC_one, writeC_one, rS_set, rN_set, rB_set, Nat.mul_one, Nat.zero_add]
      refine CL.of (call_no hst hl60 (by rfl) (by rfl) hk8 hm ht) ?_
      rintro _ _ ⟨rfl, rfl⟩
      simp only [go_sem, Sh.enc, hk7, hvN, hvS, hvB, hvN', hvS', hvB', hwm, hw, hvs, hbs, readC_one, writeC_one, rS_set, rN_set, rB_set, Nat.mul_one, Nat.zero_add]
      exact ⟨⟨i + 1, vs, ns, bs, s⟩, by show l.length - (i + 1) < l.length - i; omega, hst.stay hlt, _, [0, 1, 2, 3, 4, 5], rfl, Wk.of rfl (by decide) (by simp only [go_sem, hrho, hv]; first | done | rfl | trace_state) (by simp only [go_sem, blM, Sh.enc, Sh.lie, hcv, hev, hdv, outV_ren', ↓outB_ren', Cell.map_rens, Evn.map_rens, ↓rS_ren, ↓rN_ren, ↓rB_ren, implies_true]; first | done | trace_state)⟩
    · by_cases hc : max 0 (m - w1) = m
      · rw [hc]
        refine CL.of (call_cas hst hl60 (by rfl) (by rfl) hk8 hlt hm hl12) ?_
        rintro _ _ ⟨s', rfl, rfl, hst'⟩
        replace hst' : StM H 10 11 l.length _ := hst'
        have hcv' := hst'.cv
        have hev' := hst'.ev
        have hdv' := hst'.dv
        dsimp only at hcv' hev' hdv'
        simp only [go_sem, Sh.enc, hk7, hvN, hvS, hvB, hvN', hvS', hvB', hwm, hw, hc, readC_one, writeC_one, rS_set, rN_set, rB_set, Nat.mul_one, Nat.zero_add]
        refine CL.of (call_yes hst' hl60 (by rfl) (by rfl) hk8 (hm' _) (hx' _) (ht' _)) ?_
        rintro _ _ ⟨rfl, rfl⟩
        simp only [go_sem, Sh.enc, hk7, hvN, hvS, hvB, hvN', hvS', hvB', hwm, hw, hc, readC_one, writeC_one, rS_set, rN_set, rB_set, Nat.mul_one, Nat.zero_add]
        exact ⟨⟨i + 1, vs.set k [65 + i % 26], ns.set k (m + 1), bs.set k true, s'.lie (H.key 4) (H.key 5)⟩, by show l.length - (i + 1) < l.length - i; omega, hst'.lie 4 5, _, [0, 1, 2, 3, 10, 11], rfl, Wk.of rfl (by decide) (by simp only [go_sem, hrho, hv]; first | done | rfl | trace_state) (by simp only [go_sem, blM, Sh.enc, Sh.lie, hcv', hev', hdv', outV_ren', ↓outB_ren', Cell.map_rens, Evn.map_rens, ↓rS_ren, ↓rN_ren, ↓rB_ren, implies_true]; first | done | trace_state)⟩
      · refine CL.of (call_clash hst hl60 (by rfl) (by rfl) hk8 hm hl12 (fun g => hc g.symm) (by omega) (by omega)) ?_
        rintro _ _ ⟨rfl, rfl⟩
        simp only [go_sem, Sh.enc, hk7, hvN, hvS, hvB, hvN', hvS', hvB', hwm, hw, hvs, hbs, hc, readC_one, writeC_one, rS_set, rN_set, rB_set, Nat.mul_one, Nat.zero_add]
        refine CL.of (call_no hst hl60 (by rfl) (by rfl) hk8 hm ht) ?_
        rintro _ _ ⟨rfl, rfl⟩
        simp only [go_sem, Sh.enc, hk7, hvN, hvS, hvB, hvN', hvS', hvB', hwm, hw, hvs, hbs, hc, readC_one, writeC_one, rS_set, rN_set, rB_set, Nat.mul_one, Nat.zero_add]
        exact ⟨⟨i + 1, vs, ns, bs, s⟩, by show l.length - (i + 1) < l.length - i; omega, hst.stay hlt, _, [0, 1, 2, 3, 4, 5], rfl, Wk.of rfl (by decide) (by simp only [go_sem, hrho, hv]; first | done | rfl | trace_state) (by simp only [go_sem, blM, Sh.enc, Sh.lie, hcv, hev, hdv, outV_ren', ↓outB_ren', Cell.map_rens, Evn.map_rens, ↓rS_ren, ↓rN_ren, ↓rB_ren, implies_true]; first | done | trace_state)⟩
    · refine CL.of (call_no hst hl60 (by rfl) (by rfl) hk8 hm ht) ?_
      rintro _ _ ⟨rfl, rfl⟩
      simp only [go_sem, Sh.enc, hk7, hvN, hvS, hvB, hvN', hvS', hvB', hwm, hw, hvs, hbs, readC_one, writeC_one, rS_set, rN_set, rB_set, Nat.mul_one, Nat.zero_add]
      exact ⟨⟨i + 1, vs, ns, bs, s⟩, by show l.length - (i + 1) < l.length - i; omega, hst.stay hlt, _, [0, 1, 2, 3, 4, 5], rfl, Wk.of rfl (by decide) (by simp only [go_sem, hrho, hv]; first | done | rfl | trace_state) (by simp only [go_sem, blM, Sh.enc, Sh.lie, hcv, hev, hdv, outV_ren', ↓outB_ren', Cell.map_rens, Evn.map_rens, ↓rS_ren, ↓rN_ren, ↓rB_ren, implies_true]; first | done | trace_state)⟩
  · simp only [go_sem, C5L0, hv, hci, hsi, hgo, hrow, hw, Sp5.enc, off8, blM, Sh.enc, h8, h26, hwa, hwc, hby, hwk0, hlk, hwk, hwk2, hbyk, hk7, hvN, hvS, hvB, hwho, hwmw, readC_one, writeC_one, rS_set, rN_set, rB_set, Nat.mul_one, Nat.zero_add]
    refine ⟨fun h0 => ?_, fun h0 => ⟨fun h1 => ?_, fun h1 => ⟨fun h2 => ?_, fun h2 => ?_⟩⟩⟩
    · refine CL.of (call_put hst hl60 (by rfl) (by rfl) hk8 hlt hm hl12) ?_
      rintro _ _ ⟨s', rfl, rfl, hst'⟩
      replace hst' : StM H 10 11 l.length _ := hst'
      have hcv' := hst'.cv
      have hev' := hst'.ev
      have hdv' := hst'.dv
      dsimp only at hcv' hev' hdv'
      simp only [go_sem, Sh.enc, hk7, hvN, hvS, hvB, hvN', hvS', hvB', hwm, hw, readC_one, writeC_one, rS_set, rN_set, rB_set, Nat.mul_one, Nat.zero_add]
      refine CL.of (call_yes hst' hl60 (by rfl) (by rfl) hk8 (hm' _) (hx' _) (ht' _)) ?_
      rintro _ _ ⟨rfl, rfl⟩
      simp only [go_sem, Sh.enc, hk7, hvN, hvS, hvB, hvN', hvS', hvB', hwm, hw, readC_one, writeC_one, rS_set, rN_set, rB_set, Nat.mul_one, Nat.zero_add]
      exact ⟨⟨i + 1, vs.set k [65 + i % 26], ns.set k (m + 1), bs.set k true, s'.lie (H.key 4) (H.key 5)⟩, by show l.length - (i + 1) < l.length - i; omega, hst'.lie 4 5, _, [0, 1, 2, 3, 10, 11], rfl, Wk.of rfl (by decide) (by simp only [go_sem, hrho, hv]; first | done | rfl | trace_state) (by simp only [go_sem, blM, Sh.enc, Sh.lie, hcv', hev', hdv', outV_ren', ↓outB_ren', Cell.map_rens, Evn.map_rens, ↓rS_ren, ↓rN_ren, ↓rB_ren, implies_true]; first | done | trace_state)⟩
    · refine CL.of (call_del hst hl60 (by rfl) (by rfl) hk8 hlt hm ht) ?_
      rintro _ _ ⟨s', rfl, rfl, hst'⟩
      replace hst' : StM H 10 11 l.length _ := hst'
      have hcv' := hst'.cv
      have hev' := hst'.ev
      have hdv' := hst'.dv
      dsimp only at hcv' hev' hdv'
      simp only [go_sem, Sh.enc, hk7, hvN, hvS, hvB, hvN', hvS', hvB', hwm, hw, readC_one, writeC_one, rS_set, rN_set, rB_set, Nat.mul_one, Nat.zero_add]
      refine CL.of (call_no hst' hl60 (by rfl) (by rfl) hk8 (hm' _) (ht' _)) ?_
      rintro _ _ ⟨rfl, rfl⟩
      simp only [go_sem, Sh.enc, hk7, hvN, hvS, hvB, hvN', hvS', hvB', hwm, hw, readC_one, writeC_one, rS_set, rN_set, rB_set, Nat.mul_one, Nat.zero_add]
      exact ⟨⟨i + 1, vs.set k [], ns.set k (m + 1), bs.set k false, s'.lie (H.key 4) (H.key 5)⟩, by show l.length - (i + 1) < l.length - i; omega, hst'.lie 4 5, _, [0, 1, 2, 3, 10, 11], rfl, Wk.of rfl (by decide) (by simp only [go_sem, hrho, hv]; first | done | rfl | trace_state) (by simp only [go_sem, blM, Sh.enc, Sh.lie, hcv', hev', hdv', outV_ren', ↓outB_ren', Cell.map_rens, Evn.map_rens, ↓rS_ren, ↓rN_ren, ↓rB_ren, implies_true]; first | done | trace_state)⟩
    · by_cases hc : max 0 (m - w1) = m
      · rw [hc]
        refine CL.of (call_cas hst hl60 (by rfl) (by rfl) hk8 hlt hm hl12) ?_
        rintro _ _ ⟨s', rfl, rfl, hst'⟩
        replace hst' : StM H 10 11 l.length _ := hst'
        have hcv' := hst'.cv
        have hev' := hst'.ev
        have hdv' := hst'.dv
        dsimp only at hcv' hev' hdv'
        simp only [go_sem, Sh.enc, hk7, hvN, hvS, hvB, hvN', hvS', hvB', hwm, hw, hc, readC_one, writeC_one, rS_set, rN_set, rB_set, Nat.mul_one, Nat.zero_add]
        refine CL.of (call_yes hst' hl60 (by rfl) (by rfl) hk8 (hm' _) (hx' _) (ht' _)) ?_
        rintro _ _ ⟨rfl, rfl⟩
        simp only [go_sem, Sh.enc, hk7, hvN, hvS, hvB, hvN', hvS', hvB', hwm, hw, hc, readC_one, writeC_one, rS_set, rN_set, rB_set, Nat.mul_one, Nat.zero_add]
        exact ⟨⟨i + 1, vs.set k [65 + i % 26], ns.set k (m + 1), bs.set k true, s'.lie (H.key 4) (H.key 5)⟩, by show l.length - (i + 1) < l.length - i; omega, hst'.lie 4 5, _, [0, 1, 2, 3, 10, 11], rfl, Wk.of rfl (by decide) (by simp only [go_sem, hrho, hv]; first | done | rfl | trace_state) (by simp only [go_sem, blM, Sh.enc, Sh.lie, hcv', hev', hdv', outV_ren', ↓outB_ren', Cell.map_rens, Evn.map_rens, ↓rS_ren, ↓rN_ren, ↓rB_ren, implies_true]; first | done | trace_state)⟩
      · refine CL.of (call_clash hst hl60 (by rfl) (by rfl) hk8 hm hl12 (fun g => hc g.symm) (by omega) (by omega)) ?_
        rintro _ _ ⟨rfl, rfl⟩
        simp only [go_sem, Sh.enc, hk7, hvN, hvS, hvB, hvN', hvS', hvB', hwm, hw, hc, readC_one, writeC_one, rS_set, rN_set, rB_set, Nat.mul_one, Nat.zero_add]
        refine CL.of (call_yes hst hl60 (by rfl) (by rfl) hk8 hm hx ht) ?_
        rintro _ _ ⟨rfl, rfl⟩
        simp only [go_sem, Sh.enc, hk7, hvN, hvS, hvB, hvN', hvS', hvB', hwm, hw, hc, readC_one, writeC_one, rS_set, rN_set, rB_set, Nat.mul_one, Nat.zero_add]
        exact ⟨⟨i + 1, vs, ns, bs, s⟩, by show l.length - (i + 1) < l.length - i; omega, hst.stay hlt, _, [0, 1, 2, 3, 4, 5], rfl, Wk.of rfl (by decide) (by simp only [go_sem, hrho, hv]; first | done | rfl | trace_state) (by simp only [go_sem, blM, Sh.enc, Sh.lie, hcv, hev, hdv, outV_ren', ↓outB_ren', Cell.map_rens, Evn.map_rens, ↓rS_ren, ↓rN_ren, ↓rB_ren, implies_true]; first | done | trace_state)⟩
    · refine CL.of (call_yes hst hl60 (by rfl) (by rfl) hk8 hm hx ht) ?_
      rintro _ _ ⟨rfl, rfl⟩
      simp only [go_sem, Sh.enc, hk7, hvN, hvS, hvB, hvN', hvS', hvB', hwm, hw, readC_one, writeC_one, rS_set, rN_set, rB_set, Nat.mul_one, Nat.zero_add]
      exact ⟨⟨i + 1, vs, ns, bs, s⟩, by show l.length - (i + 1) < l.length - i; omega, hst.stay hlt, _, [0, 1, 2, 3, 4, 5], rfl, Wk.of rfl (by decide) (by simp only [go_sem, hrho, hv]; first | done | rfl | trace_state) (by simp only [go_sem, blM, Sh.enc, Sh.lie, hcv, hev, hdv, outV_ren', ↓outB_ren', Cell.map_rens, Evn.map_rens, ↓rS_ren, ↓rN_ren, ↓rB_ren, implies_true]; first | done | trace_state)⟩
end Go.Proofs
/- ShardKeys: a step with a key: walked. -/

set_option linter.all false
set_option linter.all false
set_option maxRecDepth 100000
namespace Go.Proofs
open Go Go.Ev
variable {H : Heap}

theorem step_key {v : AV} {l : List Sp5} (hA : Arr H 8 v (l.map Sp5.enc)) (hok : H.ok) (hl60 : l.length ≤ 60) {i : Nat} {vs : List (List Nat)} {ns : List Int} {bs : List Bool} {s : Sh} (hst : StM H 4 5 l.length ⟨i, vs, ns, bs, s⟩) (hlt : i < l.length) {x0 : Nat} {key0 : List Nat} (hkey : l[i].key = x0 :: key0) (R : Ex → Tr AV → Heap → Prop) :
    WW Tryz.prog E0 Tryz.f5.ntmps H [.code C5L0] (trOf [(.z, v), ((.o (.o .z)), .ptr (H.key 0) 0), ((.i (.o .z)), .ptr (H.key 1) 0), ((.o (.i .z)), .ptr (H.key 2) 0), ((.i (.i .z)), .ptr (H.key 3) 0), ((.o (.o (.o .z))), .int .i64 i)]) (H.ext (blM ⟨i, vs, ns, bs, s⟩)) (behind (NextR H (fun q : St => l.length - q.i) (StM H 4 5 l.length) (fun q => [(.z, v), ((.o (.o .z)), .ptr (H.key 0) 0), ((.i (.o .z)), .ptr (H.key 1) 0), ((.o (.i .z)), .ptr (H.key 2) 0), ((.i (.i .z)), .ptr (H.key 3) 0), ((.o (.o (.o .z))), .int .i64 q.i)]) blM ⟨i, vs, ns, bs, s⟩) R) := by
  have hren := hA.ren
  obtain ⟨hi, hat, hcv, hev, hdv⟩ := id hst
  dsimp only at hi hat hcv hev hdv
  have hci : (i : Int) < (l.length : Int) := by omega
  have hw := wrap_succ (n := i) (by omega)
  obtain ⟨kk, r, ex', cap', wr, rows, hv, hrho, hgo, hrow⟩ := hA.at hok (j := i) (by rw [List.length_map]; exact hlt)
  simp only [List.length_map, List.getElem_map] at hv hrow
  generalize hp : l[i] = p at hrow
  obtain ⟨who, dy, kind, key, to, val, ver, wv⟩ := p
  rw [hp] at hkey
  obtain rfl : key = x0 :: key0 := hkey
  have hsi : i + 1 ≤ l.length := (by omega)
  have hwb : ∀ n : Nat, n ≤ 200 → IntKind.u8.wrap (n : Int) = n := fun n h => wrap_u8 (by omega)
  have h8i : (i : Int).tmod 8 = ((i % 8 : Nat) : Int) := by rw [Int.tmod_eq_emod_of_nonneg (by omega)]; rfl
  have h26 : (i : Int).tmod 26 = ((i % 26 : Nat) : Int) := by rw [Int.tmod_eq_emod_of_nonneg (by omega)]; rfl
  have hwa : IntKind.i64.wrap (65 + ((i % 26 : Nat) : Int)) = ((65 + i % 26 : Nat) : Int) := by rw [wrap_i64 (by omega) (by omega)]; omega
  have hwc := hwb (65 + i % 26) (by omega)
  have hby := fun (f : R1) c => bytesC_one (m := 65 + i % 26) (by omega) f c
  obtain ⟨k, hk⟩ : ∃ k, k = x0 % 8 := ⟨_, rfl⟩
  have h8 : (x0 : Int).tmod 8 = (k : Int) := by rw [Int.tmod_eq_emod_of_nonneg (by omega)]; omega
  have hk8 : k < 8 := by omega
  have hlk : (0 : Int) < ((key0.length + 1 : Nat) : Int) := by omega
  have hk7 : k ≤ 7 := by omega
  have hwk0 : IntKind.i64.wrap (k : Int) = (k : Int) := wrap_i64 (by omega) (by omega)
  have hwk : IntKind.i64.wrap (97 + (k : Int)) = ((97 + k : Nat) : Int) := by rw [wrap_i64 (by omega) (by omega)]; omega
  have hwk2 := hwb (97 + k) (by omega)
  have hbyk := fun (f : R1) c => bytesC_one (m := 97 + k) (by omega) f c
  obtain ⟨w1, hw1, hwho⟩ := and_one who
  obtain ⟨x, m, t, hx, hm, ht, hm0, hm1, hxt⟩ := hst.val hk8
  have hlv := hat.lv
  have hln := hat.ln
  have hlb := hat.lb
  have hvS := rS_at hx
  have hvN := rN_at hm
  have hvB := rB_at ht
  have hx' : ∀ y, (vs.set k y)[k]? = some y := fun y => List.getElem?_set_self (by omega)
  have hm' : ∀ y, (ns.set k y)[k]? = some y := fun y => List.getElem?_set_self (by omega)
  have ht' : ∀ y, (bs.set k y)[k]? = some y := fun y => List.getElem?_set_self (by omega)
  have hvS' := fun y => rS_at (hx' y)
  have hvN' := fun y => rN_at (hm' y)
  have hvB' := fun y => rB_at (ht' y)
  have hwm : IntKind.i64.wrap (m + 1) = m + 1 := wrap_i64 (by omega) (by omega)
  have hwmw : IntKind.i64.wrap (m - w1) = m - w1 := wrap_i64 (by omega) (by omega)
  have hl12 : (([65 + i % 26] : List Nat).length : Int) ≤ 12 := by show (1 : Int) ≤ 12; decide
  cases t
  · obtain rfl := hxt rfl
    have hvs : vs.set k [] = vs := set_same hx
    have hbs : bs.set k false = bs := set_same ht
    simp only [go_sem, C5L0, hv, hci, hsi, hgo, hrow, hw, Sp5.enc, off8, blM, Sh.enc, h8, h26, hwa, hwc, hby, hwk0, hlk, hwk, hwk2, hbyk, hk7, hvN, hvS, hvB, hwho, hwmw, readC_one, writeC_one, rS_set, rN_set, rB_set, Nat.mul_one, Nat.zero_add]
    refine ⟨fun h0 => ?_, fun h0 => ⟨fun h1 => ?_, fun h1 => ⟨fun h2 => ?_, fun h2 => ?_⟩⟩⟩
    · refine CL.of (call_put hst hl60 (by rfl) (by rfl) hk8 hlt hm hl12) ?_
      rintro _ _ ⟨s', rfl, rfl, hst'⟩
      replace hst' : StM H 10 11 l.length _ := hst'
      have hcv' := hst'.cv
      have hev' := hst'.ev
      have hdv' := hst'.dv
      dsimp only at hcv' hev' hdv'
      simp only [go_sem, Sh.enc, hk7, hvN, hvS, hvB, hvN', hvS', hvB', hwm, hw, readC_one, writeC_one, rS_set, rN_set, rB_set, Nat.mul_one, Nat.zero_add]
      refine CL.of (call_yes hst' hl60 (by rfl) (by rfl) hk8 (hm' _) (hx' _) (ht' _)) ?_
      rintro _ _ ⟨rfl, rfl⟩
      simp only [go_sem, Sh.enc, hk7, hvN, hvS, hvB, hvN', hvS', hvB', hwm, hw, readC_one, writeC_one, rS_set, rN_set, rB_set, Nat.mul_one, Nat.zero_add]
      exact ⟨⟨i + 1, vs.set k [65 + i % 26], ns.set k (m + 1), bs.set k true, s'.lie (H.key 4) (H.key 5)⟩, by show l.length - (i + 1) < l.length - i; omega, hst'.lie 4 5, _, [0, 1, 2, 3, 10, 11], rfl, Wk.of rfl (by decide) (by simp only [go_sem, hrho, hv]; first | done | rfl | trace_state) (by simp only [go_sem, blM, Sh.enc, Sh.lie, hcv', hev', hdv', outV_ren', ↓outB_ren', Cell.map_rens, Evn.map_rens, ↓rS_ren, ↓rN_ren, ↓rB_ren, implies_true]; first | done | trace_state)⟩
    · refine CL.of (call_none hst hl60 (by rfl) (by rfl) hk8 hm ht) ?_
      rintro _ _ ⟨rfl, rfl⟩
      simp only [go_sem, Sh.enc, hk7, hvN, hvS, hvB, hvN', hvS', hvB', hwm, hw, hvs, hbs, readC_one, writeC_one, rS_set, rN_set, rB_set, Nat.mul_one, Nat.zero_add]
      refine CL.of (call_no hst hl60 (by rfl) (by rfl) hk8 hm ht) ?_
      rintro _ _ ⟨rfl, rfl⟩
      simp only [go_sem, Sh.enc, hk7, hvN, hvS, hvB, hvN', hvS', hvB', hwm, hw, hvs, hbs, readC_one, writeC_one, rS_set, rN_set, rB_set, Nat.mul_one, Nat.zero_add]
      exact ⟨⟨i + 1, vs, ns, bs, s⟩, by show l.length - (i + 1) < l.length - i; omega, hst.stay hlt, _, [0, 1, 2, 3, 4, 5], rfl, Wk.of rfl (by decide) (by simp only [go_sem, hrho, hv]; first | done | rfl | trace_state) (by simp only [go_sem, blM, Sh.enc, Sh.lie, hcv, hev, hdv, outV_ren', ↓outB_ren', Cell.map_rens, Evn.map_rens, ↓rS_ren, ↓rN_ren, ↓rB_ren, implies_true]; first | done | trace_state)⟩
    · by_cases hc : max 0 (m - w1) = m
      · rw [hc]
        refine CL.of (call_cas hst hl60 (by rfl) (by rfl) hk8 hlt hm hl12) ?_
        rintro _ _ ⟨s', rfl, rfl, hst'⟩
        replace hst' : StM H 10 11 l.length _ := hst'
        have hcv' := hst'.cv
        have hev' := hst'.ev
        have hdv' := hst'.dv
        dsimp only at hcv' hev' hdv'
        simp only [go_sem, Sh.enc, hk7, hvN, hvS, hvB, hvN', hvS', hvB', hwm, hw, hc, readC_one, writeC_one, rS_set, rN_set, rB_set, Nat.mul_one, Nat.zero_add]
        refine CL.of (call_yes hst' hl60 (by rfl) (by rfl) hk8 (hm' _) (hx' _) (ht' _)) ?_
        rintro _ _ ⟨rfl, rfl⟩
        simp only [go_sem, Sh.enc, hk7, hvN, hvS, hvB, hvN', hvS', hvB', hwm, hw, hc, readC_one, writeC_one, rS_set, rN_set, rB_set, Nat.mul_one, Nat.zero_add]
        exact ⟨⟨i + 1, vs.set k [65 + i % 26], ns.set k (m + 1), bs.set k true, s'.lie (H.key 4) (H.key 5)⟩, by show l.length - (i + 1) < l.length - i; omega, hst'.lie 4 5, _, [0, 1, 2, 3, 10, 11], rfl, Wk.of rfl (by decide) (by simp only [go_sem, hrho, hv]; first | done | rfl | trace_state) (by simp only [go_sem, blM, Sh.enc, Sh.lie, hcv', hev', hdv', outV_ren', ↓outB_ren', Cell.map_rens, Evn.map_rens, ↓rS_ren, ↓rN_ren, ↓rB_ren, implies_true]; first | done | trace_state)⟩
      · refine CL.of (call_clash hst hl60 (by rfl) (by rfl) hk8 hm hl12 (fun g => hc g.symm) (by omega) (by omega)) ?_
        rintro _ _ ⟨rfl, rfl⟩
        simp only [go_sem, Sh.enc, hk7, hvN, hvS, hvB, hvN', hvS', hvB', hwm, hw, hvs, hbs, hc, readC_one, writeC_one, rS_set, rN_set, rB_set, Nat.mul_one, Nat.zero_add]
        refine CL.of (call_no hst hl60 (by rfl) (by rfl) hk8 hm ht) ?_
        rintro _ _ ⟨rfl, rfl⟩
        simp only [go_sem, Sh.enc, hk7, hvN, hvS, hvB, hvN', hvS', hvB', hwm, hw, hvs, hbs, hc, readC_one, writeC_one, rS_set, rN_set, rB_set, Nat.mul_one, Nat.zero_add]
        exact ⟨⟨i + 1, vs, ns, bs, s⟩, by show l.length - (i + 1) < l.length - i; omega, hst.stay hlt, _, [0, 1, 2, 3, 4, 5], rfl, Wk.of rfl (by decide) (by simp only [go_sem, hrho, hv]; first | done | rfl | trace_state) (by simp only [go_sem, blM, Sh.enc, Sh.lie, hcv, hev, hdv, outV_ren', ↓outB_ren', Cell.map_rens, Evn.map_rens, ↓rS_ren, ↓rN_ren, ↓rB_ren, implies_true]; first | done | trace_state)⟩
    · refine CL.of (call_no hst hl60 (by rfl) (by rfl) hk8 hm ht) ?_
      rintro _ _ ⟨rfl, rfl⟩
      simp only [go_sem, Sh.enc, hk7, hvN, hvS, hvB, hvN', hvS', hvB', hwm, hw, hvs, hbs, readC_one, writeC_one, rS_set, rN_set, rB_set, Nat.mul_one, Nat.zero_add]
      exact ⟨⟨i + 1, vs, ns, bs, s⟩, by show l.length - (i + 1) < l.length - i; omega, hst.stay hlt, _, [0, 1, 2, 3, 4, 5], rfl, Wk.of rfl (by decide) (by simp only [go_sem, hrho, hv]; first | done | rfl | trace_state) (by simp only [go_sem, blM, Sh.enc, Sh.lie, hcv, hev, hdv, outV_ren', ↓outB_ren', Cell.map_rens, Evn.map_rens, ↓rS_ren, ↓rN_ren, ↓rB_ren, implies_true]; first | done | trace_state)⟩
  · simp only [go_sem, C5L0, hv, hci, hsi, hgo, hrow, hw, Sp5.enc, off8, blM, Sh.enc, h8, h26, hwa, hwc, hby, hwk0, hlk, hwk, hwk2, hbyk, hk7, hvN, hvS, hvB, hwho, hwmw, readC_one, writeC_one, rS_set, rN_set, rB_set, Nat.mul_one, Nat.zero_add]
    refine ⟨fun h0 => ?_, fun h0 => ⟨fun h1 => ?_, fun h1 => ⟨fun h2 => ?_, fun h2 => ?_⟩⟩⟩
    · refine CL.of (call_put hst hl60 (by rfl) (by rfl) hk8 hlt hm hl12) ?_
      rintro _ _ ⟨s', rfl, rfl, hst'⟩
      replace hst' : StM H 10 11 l.length _ := hst'
      have hcv' := hst'.cv
      have hev' := hst'.ev
      have hdv' := hst'.dv
      dsimp only at hcv' hev' hdv'
      simp only [go_sem, Sh.enc, hk7, hvN, hvS, hvB, hvN', hvS', hvB', hwm, hw, readC_one, writeC_one, rS_set, rN_set, rB_set, Nat.mul_one, Nat.zero_add]
      refine CL.of (call_yes hst' hl60 (by rfl) (by rfl) hk8 (hm' _) (hx' _) (ht' _)) ?_
      rintro _ _ ⟨rfl, rfl⟩
      simp only [go_sem, Sh.enc, hk7, hvN, hvS, hvB, hvN', hvS', hvB', hwm, hw, readC_one, writeC_one, rS_set, rN_set, rB_set, Nat.mul_one, Nat.zero_add]
      exact ⟨⟨i + 1, vs.set k [65 + i % 26], ns.set k (m + 1), bs.set k true, s'.lie (H.key 4) (H.key 5)⟩, by show l.length - (i + 1) < l.length - i; omega, hst'.lie 4 5, _, [0, 1, 2, 3, 10, 11], rfl, Wk.of rfl (by decide) (by simp only [go_sem, hrho, hv]; first | done | rfl | trace_state) (by simp only [go_sem, blM, Sh.enc, Sh.lie, hcv', hev', hdv', outV_ren', ↓outB_ren', Cell.map_rens, Evn.map_rens, ↓rS_ren, ↓rN_ren, ↓rB_ren, implies_true]; first | done | trace_state)⟩
    · refine CL.of (call_del hst hl60 (by rfl) (by rfl) hk8 hlt hm ht) ?_
      rintro _ _ ⟨s', rfl, rfl, hst'⟩
      replace hst' : StM H 10 11 l.length _ := hst'
      have hcv' := hst'.cv
      have hev' := hst'.ev
      have hdv' := hst'.dv
      dsimp only at hcv' hev' hdv'
      simp only [go_sem, Sh.enc, hk7, hvN, hvS, hvB, hvN', hvS', hvB', hwm, hw, readC_one, writeC_one, rS_set, rN_set, rB_set, Nat.mul_one, Nat.zero_add]
      refine CL.of (call_no hst' hl60 (by rfl) (by rfl) hk8 (hm' _) (ht' _)) ?_
      rintro _ _ ⟨rfl, rfl⟩
      simp only [go_sem, Sh.enc, hk7, hvN, hvS, hvB, hvN', hvS', hvB', hwm, hw, readC_one, writeC_one, rS_set, rN_set, rB_set, Nat.mul_one, Nat.zero_add]
      exact ⟨⟨i + 1, vs.set k [], ns.set k (m + 1), bs.set k false, s'.lie (H.key 4) (H.key 5)⟩, by show l.length - (i + 1) < l.length - i; omega, hst'.lie 4 5, _, [0, 1, 2, 3, 10, 11], rfl, Wk.of rfl (by decide) (by simp only [go_sem, hrho, hv]; first | done | rfl | trace_state) (by simp only [go_sem, blM, Sh.enc, Sh.lie, hcv', hev', hdv', outV_ren', ↓outB_ren', Cell.map_rens, Evn.map_rens, ↓rS_ren, ↓rN_ren, ↓rB_ren, implies_true]; first | done | trace_state)⟩
    · by_cases hc : max 0 (m - w1) = m
      · rw [hc]
        refine CL.of (call_cas hst hl60 (by rfl) (by rfl) hk8 hlt hm hl12) ?_
        rintro _ _ ⟨s', rfl, rfl, hst'⟩
        replace hst' : StM H 10 11 l.length _ := hst'
        have hcv' := hst'.cv
        have hev' := hst'.ev
        have hdv' := hst'.dv
        dsimp only at hcv' hev' hdv'
        simp only [go_sem, Sh.enc, hk7, hvN, hvS, hvB, hvN', hvS', hvB', hwm, hw, hc, readC_one, writeC_one, rS_set, rN_set, rB_set, Nat.mul_one, Nat.zero_add]
        refine CL.of (call_yes hst' hl60 (by rfl) (by rfl) hk8 (hm' _) (hx' _) (ht' _)) ?_
        rintro _ _ ⟨rfl, rfl⟩
        simp only [go_sem, Sh.enc, hk7, hvN, hvS, hvB, hvN', hvS', hvB', hwm, hw, hc, readC_one, writeC_one, rS_set, rN_set, rB_set, Nat.mul_one, Nat.zero_add]
        exact ⟨⟨i + 1, vs.set k [65 + i % 26], ns.set k (m + 1), bs.set k true, s'.lie (H.key 4) (H.key 5)⟩, by show l.length - (i + 1) < l.length - i; omega, hst'.lie 4 5, _, [0, 1, 2, 3, 10, 11], rfl, Wk.of rfl (by decide) (by simp only [go_sem, hrho, hv]; first | done | rfl | trace_state) (by simp only [go_sem, blM, Sh.enc, Sh.lie, hcv', hev', hdv', outV_ren', ↓outB_ren', Cell.map_rens, Evn.map_rens, ↓rS_ren, ↓rN_ren, ↓rB_ren, implies_true]; first | done | trace_state)⟩
      · refine CL.of (call_clash hst hl60 (by rfl) (by rfl) hk8 hm hl12 (fun g => hc g.symm) (by omega) (by omega)) ?_
        rintro _ _ ⟨rfl, rfl⟩
        simp only [go_sem, Sh.enc, hk7, hvN, hvS, hvB, hvN', hvS', hvB', hwm, hw, hc, readC_one, writeC_one, rS_set, rN_set, rB_set, Nat.mul_one, Nat.zero_add]
        refine CL.of (call_yes hst hl60 (by rfl) (by rfl) hk8 hm hx ht) ?_
        rintro _ _ ⟨rfl, rfl⟩
        simp only [go_sem, Sh.enc, hk7, hvN, hvS, hvB, hvN', hvS', hvB', hwm, hw, hc, readC_one, writeC_one, rS_set, rN_set, rB_set, Nat.mul_one, Nat.zero_add]
        exact ⟨⟨i + 1, vs, ns, bs, s⟩, by show l.length - (i + 1) < l.length - i; omega, hst.stay hlt, _, [0, 1, 2, 3, 4, 5], rfl, Wk.of rfl (by decide) (by simp only [go_sem, hrho, hv]; first | done | rfl | trace_state) (by simp only [go_sem, blM, Sh.enc, Sh.lie, hcv, hev, hdv, outV_ren', ↓outB_ren', Cell.map_rens, Evn.map_rens, ↓rS_ren, ↓rN_ren, ↓rB_ren, implies_true]; first | done | trace_state)⟩
    · refine CL.of (call_yes hst hl60 (by rfl) (by rfl) hk8 hm hx ht) ?_
      rintro _ _ ⟨rfl, rfl⟩
      simp only [go_sem, Sh.enc, hk7, hvN, hvS, hvB, hvN', hvS', hvB', hwm, hw, readC_one, writeC_one, rS_set, rN_set, rB_set, Nat.mul_one, Nat.zero_add]
      exact ⟨⟨i + 1, vs, ns, bs, s⟩, by show l.length - (i + 1) < l.length - i; omega, hst.stay hlt, _, [0, 1, 2, 3, 4, 5], rfl, Wk.of rfl (by decide) (by simp only [go_sem, hrho, hv]; first | done | rfl | trace_state) (by simp only [go_sem, blM, Sh.enc, Sh.lie, hcv, hev, hdv, outV_ren', ↓outB_ren', Cell.map_rens, Evn.map_rens, ↓rS_ren, ↓rN_ren, ↓rB_ren, implies_true]; first | done | trace_state)⟩
end Go.Proofs
/- ShardKeys: walked. -/


set_option linter.all false
set_option linter.all false
set_option maxRecDepth 100000
namespace Go.Proofs
open Go Go.Ev
variable {H : Heap}

theorem range_a {s : Sh} (h : s.ok H) (hfr : s.fr = []) (hto : s.to = []) (hrow : rowsL [97] [] 16 s.cells = rowsM s) :
    FnOk Tryz.prog 21 [.agg s.enc, .agg [.int .i64 5, .str [97], .str [], .str [], .int .i64 0, .nils]] H fun r G => r = .tup [.agg s.enc, .agg [.int .i64 0, .str [], .int .i64 0, outV (H.key 0) 3 (rowsM s).length]] ∧ G = H.ext [outB 3 ((rowsM s).map Cell.row)] := by
  rw [← hrow]
  exact f21_range h hfr hto key_a
noncomputable def blR (vs : List (List Nat)) (ns : List Int) (bs : List Bool) (s : Sh) (k : K) : List Blk := [.row true 8 [s.enc], .row true 1 (rS vs), .row true 1 (rN ns), .row true 1 (rB bs), outB 5 (s.cells.map Cell.enc), outB 4 (s.evs.map Evn.enc), outB 3 ((rowsM s).map Cell.row), .row true 4 [[.int .i64 0, .str [], .int .i64 0, outV k 3 (rowsM s).length]]]
theorem off3 (a b c : Nat) : a * 3 + b + c = a * 3 + (b + c) := Nat.add_assoc ..
theorem f5_ok {v : AV} {l : List Sp5} (hA : Arr H 8 v (l.map Sp5.enc)) (ha : ∀ s ∈ l, ∃ xs, Arr H 3 s.wv xs) (hl : l.length ≤ 9223372036854775807) : FnOk Tryz.prog 5 [v] H fun r G => r = .bool true ∧ G = H := by
  refine FnOk.assume fun hok => ?_
  refine FnOk.drop (R := fun r => r = .bool true) ?_ (by rintro v rfl ρ; rw [AV.ren])
  refine FnOk.of_WW Tryz.func5 rfl C5ok R5ok E0 good_E0 ?_
  have hlen := fun G => hA.len G
  simp only [List.length_map] at hlen
  have hren := hA.ren
  simp only [go_sem, C5]
  refine CL.of f18_ok ?_
  rintro _ G' ⟨rfl, hG⟩
  rw [hG]
  clear hG
  simp only [go_sem]
  refine CL.of (f19_ok (hA.ext _) (fun s hs => (ha s hs).imp fun xs h => h.ext _) hl) ?_
  rintro _ G' ⟨⟨b, rfl, hb⟩, hG⟩
  rw [hG]
  clear hG
  cases b
  · simp only [go_sem]
    exact ⟨_, rfl⟩
  have hl60 := hb rfl
  simp only [go_sem]
  refine CL.of (f20_ok 1 1 [] []) ?_
  rintro _ G' ⟨rfl, hG⟩
  rw [hG]
  clear hG
  simp only [go_sem]
  refine LL.st good_E0 (fun q : St => l.length - q.i) (StM H 4 5 l.length)
    (fun q => [(.z, v), ((.o (.o .z)), .ptr (H.key 0) 0), ((.i (.o .z)), .ptr (H.key 1) 0), ((.o (.i .z)), .ptr (H.key 2) 0), ((.i (.i .z)), .ptr (H.key 3) 0), ((.o (.o (.o .z))), .int .i64 q.i)])
    blM ?_ ⟨0, [[], [], [], [], [], [], [], []], [0, 0, 0, 0, 0, 0, 0, 0], [false, false, false, false, false, false, false, false], s0⟩ (σ := [0, 1, 2, 3, 4, 5]) (Wk.of rfl (by decide) (by simp only [go_sem, hren]; first | done | rfl | trace_state) (by simp only [go_sem, blM, rS, rN, rB, Sh.enc, s0]; first | done | trace_state)) ⟨Nat.zero_le _, AtM.first, rfl, rfl, rfl⟩
  rintro ⟨i, vs, ns, bs, s⟩ hst
  by_cases hlt : i < l.length
  · rcases hkey : l[i].key with _ | ⟨x0, key0⟩
    · exact step_none hA hok hl60 hst hlt hkey _
    · exact step_key hA hok hl60 hst hlt hkey _
  obtain ⟨hi, hat, hcv, hev, hdv⟩ := id hst
  dsimp only at hi hat hcv hev hdv
  have hci : ¬ (i : Int) < (l.length : Int) := by omega
  have hrows := hat.rows
  obtain ⟨h1, h2, h3, h4, h5⟩ := hat.hd
  simp only [go_sem, C5L0, hlen, hci, blM, Sh.enc]
  refine CL.of (range_a (hst.ok hl60 (by rfl) (by rfl)) h3 h4 hrows) ?_
  rintro _ _ ⟨rfl, rfl⟩
  simp only [go_sem, Sh.enc, Heap.key_ext]
  refine LL.st good_E0 (fun k : Nat => 8 - k) (fun k => k ≤ 8)
    (fun k => [((.o (.o .z)), .ptr (H.key 0) 0), ((.i (.o .z)), .ptr (H.key 1) 0), ((.o (.i .z)), .ptr (H.key 2) 0), ((.i (.i .z)), .ptr (H.key 3) 0), ((.i (.o (.o (.o .z)))), .ptr (H.key 7) 0), ((.o (.i (.o (.o .z)))), .int .i64 (cnt s k)), ((.i (.i (.o (.o .z)))), .int .i64 k)])
    (fun _ => blR vs ns bs s (H.key 6)) ?_ 0 (σ := [0, 1, 2, 3, 4, 5, 6, 8]) (Wk.of rfl (by decide) (by simp only [go_sem, cnt_zero]; first | done | rfl | trace_state) (by simp only [go_sem, blR, Sh.enc, hcv, hev, hdv, outV_ren', ↓outB_ren', Cell.map_rens, Evn.map_rens, Cell.map_row, ↓rS_ren, ↓rN_ren, ↓rB_ren, implies_true]; first | done | trace_state)) (Nat.zero_le _)
  rintro k hk
  have hlt8 := hlt
  by_cases hk8 : k < 8
  · obtain ⟨x, m, t, hx, hm, ht, hm0, hm1, hxt⟩ := hst.val hk8
    have hvS := rS_at hx
    have hvN := rN_at hm
    have hvB := rB_at ht
    have hck : (k : Int) < 8 := by omega
    have hk7 : k ≤ 7 := by omega
    have hw := wrap_succ (n := k) (by omega)
    have hcl := cnt_le s k
    have hwc := wrap_succ (n := cnt s k) (by omega)
    obtain ⟨m1, m2, m3, m4⟩ := hat.map k _ hk8 rfl
    cases t
    · have hno : ¬ thereK s k = true := by
        show ¬ decide (there (getL s.cells (ky k)).1) = true
        rw [Option.some.inj (m3.symm.trans ht)]
        exact Bool.false_ne_true
      simp only [go_sem, C5L1, blR, hck, hk7, hvB, hw, readC_one, writeC_one, rS_set, rN_set, rB_set, Nat.mul_one, Nat.zero_add]
      exact ⟨k + 1, by show 8 - (k + 1) < 8 - k; omega, hk8, _, [0, 1, 2, 3, 4, 5, 6, 7], rfl, Wk.of rfl (by decide) (by simp only [go_sem, cnt_no hno]; first | done | rfl | trace_state) (by simp only [go_sem, blR, Sh.enc, hcv, hev, hdv, outV_ren', ↓outB_ren', Cell.map_rens, Evn.map_rens, Cell.map_row, ↓rS_ren, ↓rN_ren, ↓rB_ren, implies_true]; first | done | trace_state)⟩
    · have hyes : thereK s k = true := Option.some.inj (m3.symm.trans ht)
      have hrow := rowsM_at hk8 hyes
      obtain rfl : (getL s.cells (ky k)).1.ver = m := Option.some.inj (m2.symm.trans hm)
      obtain rfl : (getL s.cells (ky k)).1.value = x := Option.some.inj (m1.symm.trans hx)
      have hlr : cnt s k < (rowsM s).length := (List.getElem?_eq_some_iff.1 hrow).1
      have hrow' : ((rowsM s).map Cell.row)[cnt s k]? = some (Cell.row (getL s.cells (ky k)).1) := by rw [List.getElem?_map, hrow]; rfl
      have hov := outV_pos (k := H.key 6) (esz := 3) (n := (rowsM s).length) (by omega)
      have hob := outB_pos (e := 3) (xs := (rowsM s).map Cell.row) (by rw [List.length_map]; omega)
      have hcc : ¬ ((rowsM s).length : Int) ≤ (cnt s k : Int) := by omega
      have hcs : cnt s k + 1 ≤ (rowsM s).length := hlr
      simp only [go_sem, C5L1, blR, hck, hk7, hvB, hvS, hvN, hw, hwc, hov, hob, hcc, hcs, hrow', Cell.row, off3, readC_one, writeC_one, rS_set, rN_set, rB_set, Nat.mul_one, Nat.zero_add]
      exact ⟨k + 1, by show 8 - (k + 1) < 8 - k; omega, hk8, _, [0, 1, 2, 3, 4, 5, 6, 7], rfl, Wk.of rfl (by decide) (by simp only [go_sem, cnt_yes hyes]; first | done | rfl | trace_state) (by simp only [go_sem, blR, Sh.enc, hcv, hev, hdv, hov, hob, outV_ren', ↓outB_ren', Cell.map_rens, Evn.map_rens, Cell.map_row, ↓rS_ren, ↓rN_ren, ↓rB_ren, implies_true]; first | done | trace_state)⟩
  · obtain rfl : k = 8 := by omega
    have hce : ((cnt s 8 : Nat) : Int) = ((rowsM s).length : Int) := by rw [rowsM_len]
    have hsok : s.ok (H.ext (blR vs ns bs s (H.key 6))) := hst.ok hl60 rfl rfl
    simp only [go_sem, C5L1, blR, Sh.enc, hce, readC_one, writeC_one, rS_set, rN_set, rB_set, Nat.mul_one, Nat.zero_add]
    refine CL.bool (f22_ok (hst.ok hl60 (by rfl) (by rfl))) (fun _ => ?_) (fun g => absurd hat.sh g)
    simp only [go_sem]
    exact ⟨_, rfl⟩
end Go.Proofs
