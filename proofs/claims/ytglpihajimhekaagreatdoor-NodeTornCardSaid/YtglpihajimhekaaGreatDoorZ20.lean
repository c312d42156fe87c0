/- part. -/
import Derived.Test.YtglpihajimhekaaGreatDoorZ19
import Derived.Test.YtglpihajimhekaaGreatDoorProg
import Derived.KernelRfl
set_option linter.all false
set_option maxRecDepth 100000
namespace Go.Proofs
open Go Go.Ev
variable {H : Heap}
def idx {α : Type} (q : α → Bool) : List α → Nat → Int
 | [], _ => -1
 | s :: l, i => if q s = true then i else idx q l (i + 1)
theorem idx_next {α : Type} (q : α → Bool) {l : List α} {i : Nat} {s : α} (h : l[i]? = some s) : idx q (l.drop i) i = if q s = true then (i : Int) else idx q (l.drop (i + 1)) (i + 1) := by
 obtain ⟨h1, h2⟩ := List.getElem?_eq_some_iff.1 h
 rw [List.drop_eq_getElem_cons h1, h2]
 rfl
theorem idx_end {α : Type} (q : α → Bool) {l : List α} {i : Nat} (h : l.length ≤ i) : idx q (l.drop i) i = -1 := by
 rw [List.drop_eq_nil_of_le h]
 rfl
theorem f119_ok {v : AV} {l : List Sh} (hA : Arr H 8 v (l.map Sh.enc)) (hl : l.length ≤ 100000) {g : FuncId} {caps : List AV} (hcall : ∀ args H, callC Tryz.prog g args H = .call g args)
  (hcaps : ∀ top σ, AV.ren (rho H top σ) (.fn (.func g) [] caps) = .fn (.func g) [] caps) {q : Sh → Bool} (hg : ∀ s ∈ l, ∀ L, FnOk Tryz.prog g (.agg s.enc :: caps) (H.ext L) fun r G => r = .bool (q s) ∧ G = H.ext L) :
  FnOk Tryz.prog 119 [v, .fn (.func g) [] caps] H fun r G => r = .int .i64 (idx q l 0) ∧ G = H := by
 refine FnOk.assume fun hok => ?_
 refine FnOk.drop (R := fun r => r = .int .i64 (idx q l 0)) ?_ (by rintro v rfl ρ; rw [AV.ren])
 refine FnOk.of_WW Tryz.func119 rfl C119ok R119ok E0 good_E0 ?_
 have hlen := fun G => hA.len G; simp only [List.length_map] at hlen; have hren := hA.ren
 simp only [go_sem, C119, hlen]
 refine LL.st good_E0 (fun i : Nat => l.length - i) (fun i => i ≤ l.length ∧ idx q l 0 = idx q (l.drop i) i)
  (fun i => [(.z, v), ((.o .z), .fn (.func g) [] caps), ((.i (.i .z)), v), ((.o (.o (.o .z))), .int .i64 l.length), ((.i (.o (.o .z))), .int .i64 i)]) (fun i => []) ?_ 0 (σ := []) (Wk.of rfl (by decide) (by simp only [go_sem, hren, ↓hcaps]) (by simp only [go_sem])) ⟨Nat.zero_le _, rfl⟩
 rintro i ⟨hi, hno⟩
 by_cases hlt : i < l.length
 ·obtain ⟨kk, r, ex', cap', wr, rows, hv, hrho, hgo, hrow⟩ := hA.at hok (j := i) (by rw [List.length_map]; exact hlt)
  simp only [List.length_map, List.getElem_map] at hv hrow
  have hget : l[i]? = some l[i] := List.getElem?_eq_getElem hlt
  generalize l[i] = c at hrow hget
  have hw := wrap_succ (n := i) (by omega)
  have hci : (i : Int) < (l.length : Int) := (by omega)
  have hsi : i + 1 ≤ l.length := (by omega)
  have hgc := hg c (List.mem_of_getElem? hget)
  have hnx := idx_next q hget
  simp only [Sh.enc] at hgc
  simp only [go_sem, hv, hci, hsi, hgo, hrow, hw, Sh.enc, hcall]
  refine CL.of (hgc _) ?_
  rintro _ G' ⟨rfl, hG⟩
  rw [hG]
  clear hG
  cases hq : q c
  ·rw [hq, if_neg Bool.false_ne_true] at hnx
   simp only [go_sem, hw]
   exact ⟨i + 1, by show l.length - (i + 1) < l.length - i; omega, ⟨by omega, hno.trans hnx⟩, _, [], rfl, Wk.of rfl (by decide) (by simp only [go_sem, hren, hrho, hv, ↓hcaps, hw]; first | done | rfl | trace_state) (by simp only [go_sem])⟩
  ·rw [hq, if_pos rfl] at hnx
   simp only [go_sem]
   exact ⟨by rw [hno, hnx], _, rfl⟩
 ·have hci : ¬ (i : Int) < (l.length : Int) := by omega
  simp only [go_sem, hci]
  exact ⟨by rw [hno, idx_end q (by omega)], _, rfl⟩
structure Gn where
 id : Int
 ep : Int
def Gn.enc (g : Gn) : List AV := [.int .i64 g.id, .int .i64 g.ep]
def bareL (l : List Dn) : Prop := ∀ d ∈ l, d.an.rv = .nils ∧ d.an.rows = []
structure smallS (s : Sh) : Prop where
 b : bareL s.done
 c : s.cells.length < 1000
 e : s.evs.length < 1000
 d : s.done.length < 1000
structure isHd (G : Heap) (k : K) (lv gv : AV) (hs : List Sh) (gs : List Gn) : Prop where
 ok : G.ok
 row : G.get k = some (.row true 2 [[lv, gv]])
 l : Arr G 8 lv (hs.map Sh.enc)
 g : Arr G 2 gv (gs.map Gn.enc)
 each : ∀ s ∈ hs, s.ok G
 small : ∀ s ∈ hs, smallS s
 few : hs.length ≤ 8 ∧ gs.length ≤ 8
theorem isHd.ext {G : Heap} {k : K} {lv gv : AV} {hs : List Sh} {gs : List Gn} (h : isHd G k lv gv hs gs) (L : List Blk) : isHd (G.ext L) k lv gv hs gs :=
 ⟨Heap.ok_ext h.ok L, Heap.get_ext_old h.ok h.row L, h.l.ext L, h.g.ext L, fun s hs => (h.each s hs).ext L, h.small, h.few⟩
section
variable {G : Heap} {k : K} {lv gv : AV} {hs : List Sh} {gs : List Gn}
theorem f51_ok (h : isHd G k lv gv hs gs) {g : FuncId} {caps : List AV} (hcall : ∀ args H, callC Tryz.prog g args H = .call g args)
  (hcaps : ∀ top σ, AV.ren (rho G top σ) (.fn (.func g) [] caps) = .fn (.func g) [] caps) {q : Sh → Bool} (hg : ∀ s ∈ hs, ∀ L, FnOk Tryz.prog g (.agg s.enc :: caps) (G.ext L) fun r G' => r = .bool (q s) ∧ G' = G.ext L) :
  FnOk Tryz.prog 51 [.ptr k 0, .fn (.func g) [] caps] G fun r G' => r = .int .i64 (idx q hs 0) ∧ G' = G := by
 refine FnOk.drop (R := fun r => r = .int .i64 (idx q hs 0)) ?_ (by rintro v rfl ρ; rw [AV.ren])
 refine FnOk.of_WW Tryz.func51 rfl C51ok R51ok E0 good_E0 ?_
 have hk : ∀ L, (G.ext L).get k = _ := fun L => Heap.get_ext_old h.ok h.row L
 simp only [go_sem, C51, hk]
 have h64 := f119_ok h.l (by have := h.few.1; omega) hcall hcaps hg
 rw [← Heap.ext_nil G] at h64
 refine CL.of h64 ?_
 rintro _ G' ⟨rfl, hG⟩
 rw [hG]
 clear hG
 simp only [go_sem]
 exact ⟨_, rfl⟩
noncomputable def findQ (key : List Nat) (s : Sh) : Bool := if s.frz = true then false else decide (has s.fr s.to key)
theorem f146_ok {H : Heap} {c : K} {wr : Bool} {key : List Nat} (hk : H.get c = some (.row wr 1 [[.str key]])) (s : Sh) : FnOk Tryz.prog 146 [.agg s.enc, .ptr c 0] H fun r G => r = .bool (findQ key s) ∧ G = H := by
 refine FnOk.assume fun hok => ?_
 refine FnOk.drop (R := fun r => r = .bool (findQ key s)) ?_ (by rintro v rfl ρ; rw [AV.ren])
 refine FnOk.of_WW Tryz.func146 rfl C146ok R146ok E0 good_E0 ?_
 have hgo := Heap.get_ext_old hok hk
 obtain ⟨id, ep, fr, to, frz, cells, evs, done, cv, ev, dv⟩ := s
 cases frz
 ·simp only [go_sem, C146, Sh.enc, hgo]
  refine CL.bool (f57_ok fr to key) (fun g => ?_) (fun g => ?_)
  ·simp only [go_sem]
   exact ⟨(show AV.bool true = .bool (decide (has fr to key)) from bool_t g), _, rfl⟩
  ·simp only [go_sem]
   exact ⟨(show AV.bool false = .bool (decide (has fr to key)) from bool_f g), _, rfl⟩
 ·simp only [go_sem, C146, Sh.enc, hgo]
  exact ⟨rfl, _, rfl⟩
end
end Go.Proofs
namespace Go.Proofs
open Go Go.Ev
variable {H : Heap}
def bareA (code : Int) (val : List Nat) (ver : Int) : An := ⟨code, val, ver, [], .nils⟩
def evT (e : Evn) : List Nat := textT e.key ++ numT e.ver.toNat ++ textT e.val ++ [e.del.toNat]
noncomputable def dnT (d : Dn) : List Nat := numT d.ses.toNat ++ numT d.id.toNat ++ ansT d.an
end Go.Proofs
namespace Go.Proofs
open Go Go.Ev
variable {H : Heap}
def AC (e : Nat) (H : Heap) (args : List AV) (xs : List (List AV)) : Prop := ∃ v, args = [v] ∧ Arr H e v xs ∧ xs.length < 100000 ∧ ∀ top σ, xs.map (AV.rens (rho H top σ)) = xs
noncomputable def ECl (f : FuncId) (args : List AV) (H : Heap) : RC :=
 match f with
 | 114 => ot (AC 5 H args) fun xs => .ok (zV (nilB (args.headD .nils)) H.nx 5 xs.length) (H.ext [zB (nilB (args.headD .nils)) 5 xs])
 | 115 => ot (AC 4 H args) fun xs => .ok (zV (nilB (args.headD .nils)) H.nx 4 xs.length) (H.ext [zB (nilB (args.headD .nils)) 4 xs])
 | 116 => ot (AC 6 H args) fun xs => .ok (zV (nilB (args.headD .nils)) H.nx 6 xs.length) (H.ext [zB (nilB (args.headD .nils)) 6 xs])
 | 117 => match args with | [.nils] => .ok .nils H | _ => .fail
 | _ => .fail
theorem good_ECl : Ev.Good Tryz.prog ECl := by
 intro f args H r G he φ w args' ha hw
 refine (?_ : FnOk Tryz.prog f args H fun v' G' => v' = r ∧ G' = G).one φ w args' ha hw
 unfold ECl at he
 split at he
 ·obtain ⟨xs, ⟨v, rfl, h1, h2, h3⟩, hz⟩ := ot_ok he
  clear he
  cases hz
  exact clone_zd clo50 h1 (by omega) h3
 ·obtain ⟨xs, ⟨v, rfl, h1, h2, h3⟩, hz⟩ := ot_ok he
  clear he
  cases hz
  exact clone_zd clo75 h1 (by omega) h3
 ·obtain ⟨xs, ⟨v, rfl, h1, h2, h3⟩, hz⟩ := ot_ok he
  clear he
  cases hz
  exact clone_zd clo57 h1 (by omega) h3
 ·split at he
  ·cases he; exact clone_nil clo55
  ·cases he
 ·cases he
theorem ac_eq {e : Nat} (he : 0 < e) {H : Heap} {v : AV} {xs : List (List AV)} (hA : Arr H e v xs) (hl : xs.length < 100000) (hx : ∀ top σ, xs.map (AV.rens (rho H top σ)) = xs) (c : List (List AV) → RC) : ot (AC e H [v]) c = c xs :=
 ot_eq (p := AC e H [v]) (x := xs) ⟨v, rfl, hA, hl, hx⟩ (by
  rintro ys ⟨v', h1, h2, _⟩
  injection h1 with h1 _
  subst h1
  exact Arr.uniq h2 hA he) c
theorem ec77 {v : AV} {l : List Cell} (hA : Arr H 5 v (l.map Cell.enc)) (hl : l.length < 100000) (L : List Blk) : ECl 114 [v] (H.ext L) = .ok (zV (nilB v) (H.key L.length) 5 l.length) (H.ext (L ++ [zB (nilB v) 5 (l.map Cell.enc)])) := by
 show ot (AC 5 (H.ext L) [v]) _ = _
 rw [ac_eq (by decide) (hA.ext L) (by rw [List.length_map]; exact hl) (fun _ _ => Cell.map_rens _ _), List.length_map, Heap.nx_ext, Heap.ext_append]
 rfl
theorem ec78 {v : AV} {l : List Evn} (hA : Arr H 4 v (l.map Evn.enc)) (hl : l.length < 100000) (L : List Blk) : ECl 115 [v] (H.ext L) = .ok (zV (nilB v) (H.key L.length) 4 l.length) (H.ext (L ++ [zB (nilB v) 4 (l.map Evn.enc)])) := by
 show ot (AC 4 (H.ext L) [v]) _ = _
 rw [ac_eq (by decide) (hA.ext L) (by rw [List.length_map]; exact hl) (fun _ _ => Evn.map_rens _ _), List.length_map, Heap.nx_ext, Heap.ext_append]
 rfl
theorem bareL.rens {l : List Dn} (h : bareL l) (ρ : K → K) : (l.map Dn.enc).map (AV.rens ρ) = l.map Dn.enc := by
 rw [List.map_map]
 refine List.map_congr_left fun d hd => ?_
 simp only [Function.comp, Dn.enc, AV.rens, AV.ren, (h d hd).1]
theorem bareL.ok {l : List Dn} (h : bareL l) (H : Heap) : allOk H l := fun d hd => ⟨by rw [(h d hd).1, (h d hd).2]; exact .inl ⟨rfl, rfl⟩, by rw [(h d hd).2]; exact Nat.zero_le _⟩
theorem ec79 {v : AV} {l : List Dn} (hA : Arr H 6 v (l.map Dn.enc)) (hb : bareL l) (hl : l.length < 100000) (L : List Blk) : ECl 116 [v] (H.ext L) = .ok (zV (nilB v) (H.key L.length) 6 l.length) (H.ext (L ++ [zB (nilB v) 6 (l.map Dn.enc)])) := by
 show ot (AC 6 (H.ext L) [v]) _ = _
 rw [ac_eq (by decide) (hA.ext L) (by rw [List.length_map]; exact hl) (fun _ _ => hb.rens _), List.length_map, Heap.nx_ext, Heap.ext_append]
 rfl
theorem ec80 (H : Heap) : ECl 117 [.nils] H = .ok .nils H := rfl
noncomputable def Sh.cop (s : Sh) (k0 k1 k2 : K) : Sh := ⟨s.id, s.ep, s.fr, s.to, s.frz, s.cells, s.evs, s.done, zV (nilB s.cv) k0 5 s.cells.length, zV (nilB s.ev) k1 4 s.evs.length, zV (nilB s.dv) k2 6 s.done.length⟩
noncomputable def copB (s : Sh) : List Blk := [zB (nilB s.cv) 5 (s.cells.map Cell.enc), zB (nilB s.ev) 4 (s.evs.map Evn.enc), zB (nilB s.dv) 6 (s.done.map Dn.enc)]
theorem Sh.cop_ok {s : Sh} (h : s.ok H) {L : List Blk} {i j m : Nat} (h1 : L[i]? = some (zB (nilB s.cv) 5 (s.cells.map Cell.enc))) (h2 : L[j]? = some (zB (nilB s.ev) 4 (s.evs.map Evn.enc))) (h3 : L[m]? = some (zB (nilB s.dv) 6 (s.done.map Dn.enc))) : (s.cop (H.key i) (H.key j) (H.key m)).ok (H.ext L) :=
 ⟨arr_zV h1 (List.length_map ..), arr_zV h2 (List.length_map ..), arr_zV h3 (List.length_map ..), h.dok.ext L, h.cl, h.el, h.dl⟩
theorem set_same {α : Type} {l : List α} {k : Nat} {x : α} (h : l[k]? = some x) : l.set k x = l := by
 apply List.ext_getElem?
 intro j
 by_cases hj : k = j
 ·subst hj
  rw [List.getElem?_set_self (List.getElem?_eq_some_iff.1 h).1, h]
 ·rw [List.getElem?_set_ne hj]
theorem f45_ok {s : Sh} (h : s.ok H) (hsm : smallS s) :
  FnOk Tryz.prog 45 [.agg s.enc] H fun r G => r = .agg (s.cop (H.key 0) (H.key 1) (H.key 2)).enc ∧ G = H.ext (copB s) := by
 refine FnOk.dropW ?_
 refine FnOk.of_WW Tryz.func45 rfl C45ok R45ok ECl good_ECl ?_
 obtain ⟨hb, hc, he, hd⟩ := hsm
 have i77 := ec77 h.c (by omega)
 have i78 := ec78 h.e (by omega)
 have i79 := ec79 h.d hb (by omega)
 have drn := hb.rens
 simp only [go_sem, C45, Sh.enc, i77, i78, i79]
 refine LL.st good_ECl (fun i : Nat => s.done.length - i) (fun i => i ≤ s.done.length)
  (fun i => [((.o .z), .ptr (H.key 0) 0), ((.i .z), .ptr (H.key 1) 0), ((.i (.i (.o (.o .z)))), .int .i64 s.done.length), ((.o (.o (.i (.o .z)))), .int .i64 i)])
  (fun _ => .row true 8 [(s.cop (H.key 2) (H.key 3) (H.key 4)).enc] :: .row true 8 [[.int .i64 0, .int .i64 0, .str [], .str [], .bool false, .nils, .nils, .nils]] :: copB s) ?_ 0 (σ := [0, 1, 2, 3, 4]) (Wk.of rfl (by decide) (by simp only [go_sem]; first | done | rfl | trace_state) (by simp only [go_sem, copB, Sh.cop, Sh.enc, zV_ren, ↓zB_ren, Cell.map_rens, Evn.map_rens, drn, implies_true]; first | done | trace_state)) (Nat.zero_le _)
 rintro i hi
 by_cases hlt : i < s.done.length
 ·have hci : (i : Int) < (s.done.length : Int) := by omega
  have hw := wrap_succ (n := i) (by omega)
  have hget : s.done[i]? = some s.done[i] := List.getElem?_eq_getElem hlt
  generalize s.done[i] = d at hget
  obtain ⟨hn1, hn2⟩ := hb d (List.mem_of_getElem? hget)
  have hrow : (s.done.map Dn.enc)[i]? = some [.int .i64 d.ses, .int .i64 d.id, .int .i64 d.an.code, .str d.an.val, .int .i64 d.an.ver, .nils] := by
   rw [List.getElem?_map, hget, ← hn1]; rfl
  have hset : (s.done.map Dn.enc).set i [.int .i64 d.ses, .int .i64 d.id, .int .i64 d.an.code, .str d.an.val, .int .i64 d.an.ver, .nils] = s.done.map Dn.enc := set_same hrow
  have hv := zV_pos (z := nilB s.dv) (k := H.key 4) (esz := 6) (n := s.done.length) (by omega)
  have hB := zB_pos (z := nilB s.dv) (esz := 6) (xs := s.done.map Dn.enc) (by rw [List.length_map]; omega)
  have hsi : i + 1 ≤ s.done.length := hlt
  simp only [go_sem, copB, Sh.cop, Sh.enc, hci, hw, hv, hB, hrow, hset, hsi, off6, ec80, Nat.zero_add]
  exact ⟨i + 1, by show s.done.length - (i + 1) < s.done.length - i; omega, hlt, _, [0, 1, 2, 3, 4], rfl, Wk.of rfl (by decide) (by simp only [go_sem]; first | done | rfl | trace_state) (by simp only [go_sem, copB, Sh.cop, Sh.enc, hv, hB, zV_ren, ↓zB_ren, Cell.map_rens, Evn.map_rens, drn, implies_true]; first | done | trace_state)⟩
 ·have hci : ¬ (i : Int) < (s.done.length : Int) := by omega
  simp only [go_sem, copB, Sh.cop, Sh.enc, hci]
  exact ⟨_, [2, 3, 4], by simp only [zV_ren, go_sem], rfl, rfl, by decide, by simp only [go_sem, copB, zV_ren, ↓zB_ren, Cell.map_rens, Evn.map_rens, drn, implies_true]⟩
end Go.Proofs
namespace Go.Proofs
open Go Go.Ev
variable {H : Heap}
theorem get_lit {bl : List Blk} {i : Nat} {x : Blk} (h : bl[i]? = some x) : (H.ext bl).get (H.key i) = some x := by
 rw [Heap.get_ext_key _ _ _ (List.getElem?_eq_some_iff.1 h).1]; exact h
theorem get_lit2 {bl L : List Blk} {i : Nat} {x : Blk} (h : bl[i]? = some x) : ((H.ext bl).ext L).get (H.key i) = some x := by
 rw [Heap.ext_append]
 refine get_lit ?_
 rw [List.getElem?_append_left (List.getElem?_eq_some_iff.1 h).1]
 exact h
theorem cap_lit {bl : List Blk} {i : Nat} (h : i < bl.length) (g : FuncId) (top : Nat) (σ : List Nat) : AV.ren (rho (H.ext bl) top σ) (.fn (.func g) [] [.ptr (H.key i) 0]) = .fn (.func g) [] [.ptr (H.key i) 0] := by
 have : rho (H.ext bl) top σ (H.key i) = H.key i := rho_old (by rw [Heap.nx_ext, Heap.toNat_key, Heap.toNat_key]; omega)
 simp only [AV.ren, AV.rens, this]
def zS : List AV := [.int .i64 0, .int .i64 0, .str [], .str [], .bool false, .nils, .nils, .nils]
section
variable {G : Heap} {k : K} {lv gv : AV} {hs : List Sh} {gs : List Gn}
theorem f50_yes (h : isHd G k lv gv hs gs) {i : Nat} {s : Sh} (hi : hs[i]? = some s) : FnOk Tryz.prog 50 [.ptr k 0, .int .i64 i] G fun r G' => r = .tup [.agg (s.cop (G.key 0) (G.key 1) (G.key 2)).enc, .bool true] ∧ G' = G.ext (copB s) := by
 refine FnOk.dropW ?_
 refine FnOk.of_WW Tryz.func50 rfl C50ok R50ok E0 good_E0 ?_
 have hk : ∀ L, (G.ext L).get k = _ := fun L => Heap.get_ext_old h.ok h.row L
 obtain ⟨hlt, hs'⟩ := List.getElem?_eq_some_iff.1 hi
 obtain ⟨kk, r, ex', cap', wr, rows, hv, hrho, hgo, hrow⟩ := h.l.at h.ok (j := i) (by rw [List.length_map]; exact hlt)
 simp only [List.length_map, List.getElem_map, hs'] at hv hrow
 have hm := List.mem_of_getElem? hi
 have hsok := h.each s hm
 have hsm := h.small s hm
 have hci : ¬ (i : Int) < 0 := by omega
 have hsi : i + 1 ≤ hs.length := hlt
 have drn := bareL.rens hsm.b
 simp only [go_sem, C50, hci, hk, hv, hsi, hgo, hrow, Sh.enc]
 refine CL.of (f45_ok (hsok.ext _) hsm) ?_
 rintro _ _ ⟨rfl, rfl⟩
 simp only [go_sem, Sh.enc, Sh.cop, copB, Heap.key_ext]
 exact ⟨_, [1, 2, 3], by simp only [zV_ren, go_sem], rfl, rfl, by decide, by simp only [go_sem, zV_ren, ↓zB_ren, Cell.map_rens, Evn.map_rens, drn, implies_true]⟩
theorem f79_yes (h : isHd G k lv gv hs gs) (key : List Nat) {i : Nat} {s : Sh} (hx : idx (findQ key) hs 0 = i) (hi : hs[i]? = some s) : FnOk Tryz.prog 79 [.ptr k 0, .str key] G fun r G' => r = .tup [.agg (s.cop (G.key 0) (G.key 1) (G.key 2)).enc, .bool true] ∧ G' = G.ext (copB s) := by
 refine FnOk.dropW ?_
 refine FnOk.of_WW Tryz.func79 rfl C79ok R79ok E0 good_E0 ?_
 have hsm := h.small s (List.mem_of_getElem? hi)
 have drn := bareL.rens hsm.b
 simp only [go_sem, C79]
 refine CL.of (f51_ok (q := findQ key) (h.ext _) (fun _ _ => call146 ..) (fun top σ => by exact cap_lit (Nat.zero_lt_succ _) 146 top σ) (fun s _ L => by exact f146_ok (get_lit2 rfl) s)) ?_
 rintro _ G' ⟨rfl, hG⟩
 rw [hG, hx]
 clear hG
 simp only [go_sem]
 refine CL.of (f50_yes (h.ext _) hi) ?_
 rintro _ _ ⟨rfl, rfl⟩
 simp only [go_sem, Sh.enc, Sh.cop, copB, Heap.key_ext]
 exact ⟨_, [2, 3, 4], by simp only [zV_ren, go_sem], rfl, rfl, by decide, by simp only [go_sem, zV_ren, ↓zB_ren, Cell.map_rens, Evn.map_rens, drn, implies_true]⟩
end
end Go.Proofs
namespace Go.Proofs
open Go Go.Ev
variable {H : Heap}
def okA (s : List Nat) (p : (Int × List Nat × Int) × List Nat) : Prop := s = ansT (bareA p.1.1 p.1.2.1 p.1.2.2) ++ p.2 ∧ isAns (bareA p.1.1 p.1.2.1 p.1.2.2) ∧ p.2.length < 800000
def okB (s : List Nat) (p : Bool × List Nat) : Prop := s = p.1.toNat :: p.2 ∧ p.2.length < 1000000
section
variable {k : K} {l : List Nat}
end
end Go.Proofs
namespace Go.Proofs
open Go Go.Ev
variable {H : Heap}
section
variable {k : K} {l : List Nat} {c : Blk}
end
def flT {α : Type} (f : α → List Nat) (l : List α) : List Nat := (l.map f).flatten
noncomputable def r3 (s : Sh) : List Nat := []
noncomputable def r2 (s : Sh) : List Nat := numT s.done.length ++ flT dnT s.done
noncomputable def r1 (s : Sh) : List Nat := numT s.evs.length ++ (flT evT s.evs ++ r2 s)
end Go.Proofs
namespace Go.Proofs
open Go Go.Ev
variable {H : Heap}
noncomputable def cmpT (a b : List Nat) : Int := if ltS a b then -1 else if ¬ (ltS a b ∨ a = b) then 1 else 0
def cmpN (a b : Int) : Int := if a < b then -1 else if b < a then 1 else 0
theorem f253_ok (a : List Nat) : FnOk Tryz.prog 253 [.str a] H fun r G => r = .bool false ∧ G = H := by
 refine FnOk.drop (R := fun r => r = .bool false) ?_ (by rintro v rfl ρ; rw [AV.ren])
 refine FnOk.of_WW Tryz.func253 rfl C253ok R253ok E0 good_E0 ?_
 simp only [go_sem, C253]
 exact ⟨_, rfl⟩
theorem f219_ok (a : Int) : FnOk Tryz.prog 219 [.int .i64 a] H fun r G => r = .bool false ∧ G = H := by
 refine FnOk.drop (R := fun r => r = .bool false) ?_ (by rintro v rfl ρ; rw [AV.ren])
 refine FnOk.of_WW Tryz.func219 rfl C219ok R219ok E0 good_E0 ?_
 simp only [go_sem, C219]
 exact ⟨_, rfl⟩
theorem f216_ok (a b : List Nat) : FnOk Tryz.prog 216 [.str a, .str b] H fun r G => r = .int .i64 (cmpT a b) ∧ G = H := by
 refine FnOk.drop (R := fun r => r = .int .i64 (cmpT a b)) ?_ (by rintro v rfl ρ; rw [AV.ren])
 refine FnOk.of_WW Tryz.func216 rfl C216ok R216ok E0 good_E0 ?_
 simp only [go_sem, C216]
 refine CL.of (f253_ok a) ?_
 rintro _ G' ⟨rfl, hG⟩; rw [hG]; clear hG
 simp only [go_sem]
 refine CL.of (f253_ok b) ?_
 rintro _ G' ⟨rfl, hG⟩; rw [hG]; clear hG
 simp only [go_sem]
 unfold cmpT
 refine ⟨fun h => ⟨by rw [if_pos h], _, rfl⟩, fun h => ⟨fun g => ⟨by rw [if_neg h, if_pos g], _, rfl⟩, fun g => ⟨by rw [if_neg h, if_neg g], _, rfl⟩⟩⟩
theorem f173_ok (a b : Int) : FnOk Tryz.prog 173 [.int .i64 a, .int .i64 b] H fun r G => r = .int .i64 (cmpN a b) ∧ G = H := by
 refine FnOk.drop (R := fun r => r = .int .i64 (cmpN a b)) ?_ (by rintro v rfl ρ; rw [AV.ren])
 refine FnOk.of_WW Tryz.func173 rfl C173ok R173ok E0 good_E0 ?_
 simp only [go_sem, C173]
 refine CL.of (f219_ok a) ?_
 rintro _ G' ⟨rfl, hG⟩; rw [hG]; clear hG
 simp only [go_sem]
 refine CL.of (f219_ok b) ?_
 rintro _ G' ⟨rfl, hG⟩; rw [hG]; clear hG
 simp only [go_sem]
 unfold cmpN
 refine ⟨fun h => ⟨by rw [if_pos h], _, rfl⟩, fun h => ⟨fun g => ⟨by rw [if_neg h, if_pos g], _, rfl⟩, fun g => ⟨by rw [if_neg h, if_neg g], _, rfl⟩⟩⟩
theorem readC_1 {β : Type} (f : β) (rows : List (List AV)) (k : Nat) (c : List AV → β) : readC f 1 rows k 1 c = optC rows[k]? f c := by
 have h := readC_at0 f 1 rows k 1 c (by decide) (Nat.le_refl _)
 rw [Nat.mul_one] at h
 exact h
theorem f215_ok {k : K} {wr : Bool} {a b : Int} (hk : H.get k = some (.row wr 1 [[.int .i64 a], [.int .i64 b]])) (ex : Bool) (cap : Nat) : FnOk Tryz.prog 215 [.slice k 0 2 1 ex cap] H fun r G => r = .int .i64 (if ¬ a = 0 then a else b) ∧ G = H := by
 refine FnOk.assume fun hok => ?_
 refine FnOk.drop (R := fun r => r = .int .i64 (if ¬ a = 0 then a else b)) ?_ (by rintro v rfl ρ; rw [AV.ren])
 refine FnOk.of_WW Tryz.func215 rfl C215ok R215ok E0 good_E0 ?_
 have hgo := Heap.get_ext_old hok hk
 have hA : Arr H 1 (.slice k 0 2 1 ex cap) [[.int .i64 a], [.int .i64 b]] := .inr ⟨k, 0, ex, cap, rfl, hok k _ hk, fun _ => ⟨0, wr, _, rfl, hk, rfl⟩⟩
 have hren : ∀ top σ, rho H top σ k = k := fun _ _ => rho_old (hok k _ hk)
 have hw01 : IntKind.i64.wrap (0 + 1) = 1 := rfl
 have hw11 : IntKind.i64.wrap (1 + 1) = 2 := rfl
 simp only [go_sem, C215]
 refine LL.st good_E0 (fun i : Nat => 2 - i) (fun i => i ≤ 2 ∧ (0 < i → a = 0) ∧ (1 < i → b = 0))
  (fun i => [((.o (.o .z)), .int .i64 0), ((.i (.i .z)), .slice k 0 2 1 ex cap), ((.o (.o (.o .z))), .int .i64 2), ((.i (.o (.o .z))), .int .i64 i)]) (fun i => []) ?_ 0 (σ := []) (Wk.of rfl (by decide) (by simp only [go_sem, hren, hw01, hw11]; first | done | rfl | trace_state) (by simp only [go_sem])) ⟨Nat.zero_le _, fun h => absurd h (Nat.lt_irrefl _), fun h => absurd h (Nat.not_lt_zero _)⟩
 rintro i ⟨hi, h1, h2⟩
 have h3 : i = 0 ∨ i = 1 ∨ i = 2 := by omega
 rcases h3 with rfl | rfl | rfl
 ·simp only [go_sem, hgo]
  refine ⟨fun h => ⟨by rw [if_pos h], _, rfl⟩, fun h => ?_⟩
  exact ⟨1, by show 2 - 1 < 2 - 0; decide, ⟨by decide, fun _ => Classical.not_not.1 h, fun h => absurd h (Nat.lt_irrefl _)⟩, _, [], rfl, Wk.of rfl (by decide) (by simp only [go_sem, hren, hw01, hw11]; first | done | rfl | trace_state) (by simp only [go_sem])⟩
 ·have ha := h1 (by decide)
  simp only [go_sem, hgo, readC_1]
  refine ⟨fun h => ⟨by rw [if_neg (fun g => g ha)], _, rfl⟩, fun h => ?_⟩
  exact ⟨2, by show 2 - 2 < 2 - 1; decide, ⟨by decide, fun _ => ha, fun _ => Classical.not_not.1 h⟩, _, [], rfl, Wk.of rfl (by decide) (by simp only [go_sem, hren, hw01, hw11]; first | done | rfl | trace_state) (by simp only [go_sem])⟩
 ·have ha := h1 (by decide)
  have hb := h2 (by decide)
  simp only [go_sem]
  exact ⟨by rw [if_neg (fun g => g ha), hb], _, rfl⟩
noncomputable def EQ (f : FuncId) (args : List AV) (H : Heap) : RC :=
 match f with
 | 216 => match args with | [.str a, .str b] => .ok (.int .i64 (cmpT a b)) H | _ => .fail
 | 173 => match args with | [.int .i64 a, .int .i64 b] => .ok (.int .i64 (cmpN a b)) H | _ => .fail
 | 215 => match args with
  | [.slice k 0 2 1 ex cap] => match H.get k with
   | some (.row wr 1 [[.int .i64 a], [.int .i64 b]]) => .ok (.int .i64 (if ¬ a = 0 then a else b)) H
   | _ => .fail
  | _ => .fail
 | _ => .fail
theorem good_EQ : Ev.Good Tryz.prog EQ := by
 intro f args H r G he φ w args' ha hw
 refine (?_ : FnOk Tryz.prog f args H fun v' G' => v' = r ∧ G' = G).one φ w args' ha hw
 unfold EQ at he
 split at he
 ·split at he
  ·cases he; exact f216_ok _ _
  ·cases he
 ·split at he
  ·cases he; exact f173_ok _ _
  ·cases he
 ·split at he
  ·split at he
   ·rename_i hk
    cases he; exact f215_ok hk _ _
   ·cases he
  ·cases he
 ·cases he
theorem eq88 (a b : List Nat) (H : Heap) : EQ 216 [.str a, .str b] H = .ok (.int .i64 (cmpT a b)) H := rfl
theorem eq49 (a b : Int) (H : Heap) : EQ 173 [.int .i64 a, .int .i64 b] H = .ok (.int .i64 (cmpN a b)) H := rfl
theorem eq87 {k : K} {wr ex : Bool} {cap : Nat} {a b : Int} {H : Heap} (hk : H.get k = some (.row wr 1 [[.int .i64 a], [.int .i64 b]])) : EQ 215 [.slice k 0 2 1 ex cap] H = .ok (.int .i64 (if ¬ a = 0 then a else b)) H := by
 show (match H.get k with | some (.row wr 1 [[.int .i64 a], [.int .i64 b]]) => .ok (.int .i64 (if ¬ a = 0 then a else b)) H | _ => .fail : RC) = _
 rw [hk]
 rfl
noncomputable def cmpS (f g : List Nat) (i j : Int) : Int := if ¬ cmpT f g = 0 then cmpT f g else cmpN i j
theorem f214_ok (i e : Int) (f t : List Nat) (z : Bool) (c v d : AV) (i' e' : Int) (f' t' : List Nat) (z' : Bool) (c' v' d' : AV) :
  FnOk Tryz.prog 214 [.agg [.int .i64 i, .int .i64 e, .str f, .str t, .bool z, c, v, d], .agg [.int .i64 i', .int .i64 e', .str f', .str t', .bool z', c', v', d']] H fun r G => r = .int .i64 (cmpS f f' i i') ∧ G = H := by
 refine FnOk.drop (R := fun r => r = .int .i64 (cmpS f f' i i')) ?_ (by rintro v rfl ρ; rw [AV.ren])
 refine FnOk.of_WW Tryz.func214 rfl C214ok R214ok EQ good_EQ ?_
 have i87 := fun b0 b1 => eq87 (H := H.ext [b0, b1, .row true 1 [[.int .i64 (cmpT f f')], [.int .i64 (cmpN i i')]]]) (k := H.key 2) (wr := true) (ex := true) (cap := 2) (get_lit rfl)
 simp only [go_sem, C214, eq88, eq49, i87]
 exact ⟨rfl, _, rfl⟩
noncomputable def EM (f : FuncId) (args : List AV) (H : Heap) : RC :=
 match f with
 | 214 => match args with | [.agg [.int .i64 i, .int .i64 _, .str f, .str _, .bool _, _, _, _], .agg [.int .i64 i', .int .i64 _, .str f', .str _, .bool _, _, _, _]] => .ok (.int .i64 (cmpS f f' i i')) H | _ => .fail
 | _ => .fail
theorem good_EM : Ev.Good Tryz.prog EM := by
 intro f args H r G he φ w args' ha hw
 refine (?_ : FnOk Tryz.prog f args H fun v' G' => v' = r ∧ G' = G).one φ w args' ha hw
 unfold EM at he
 split at he
 ·split at he
  ·cases he; exact f214_ok _ _ _ _ _ _ _ _ _ _ _ _ _ _ _ _
  ·cases he
 ·cases he
theorem em86 (i e : Int) (f t : List Nat) (z : Bool) (c v d : AV) (i' e' : Int) (f' t' : List Nat) (z' : Bool) (c' v' d' : AV) (H : Heap) :
  EM 214 [.agg [.int .i64 i, .int .i64 e, .str f, .str t, .bool z, c, v, d], .agg [.int .i64 i', .int .i64 e', .str f', .str t', .bool z', c', v', d']] H = .ok (.int .i64 (cmpS f f' i i')) H := rfl
def sorted2 : List Sh → Prop
 | [a, b] => ¬ cmpS b.fr a.fr b.id a.id < 0
 | l => l.length ≤ 1
theorem f286_one {v : AV} {n : Nat} (hn : n ≤ 1) (g : AV) : FnOk Tryz.prog 286 [v, .int .i64 0, .int .i64 n, g] H fun r G => r = .tup [] ∧ G = H := by
 refine FnOk.drop (R := fun r => r = .tup []) ?_ (by rintro v rfl ρ; simp only [AV.ren, AV.rens])
 refine FnOk.of_WW Tryz.func286 rfl C286ok R286ok E0 good_E0 ?_
 have hw01 : IntKind.i64.wrap (0 + 1) = 1 := rfl
 have hc : ¬ (1 : Int) < (n : Int) := by omega
 simp only [go_sem, C286, hw01]
 refine LL.st good_E0 (fun _ : Nat => 0) (fun _ => True) (fun _ => [((.i .z), .int .i64 n), ((.i (.o (.o .z))), .int .i64 1)]) (fun _ => []) ?_ 0 (σ := []) (Wk.of rfl (by decide) (by simp only [go_sem]; first | done | rfl | trace_state) (by simp only [go_sem])) trivial
 rintro _ _
 simp only [go_sem, hc]
 exact ⟨_, rfl⟩
theorem f286_two {v : AV} {a b : Sh} (hA : Arr H 8 v [a.enc, b.enc]) (hs : ¬ cmpS b.fr a.fr b.id a.id < 0) : FnOk Tryz.prog 286 [v, .int .i64 0, .int .i64 2, .fn (.func 214) [] []] H fun r G => r = .tup [] ∧ G = H := by
 refine FnOk.assume fun hok => ?_
 refine FnOk.drop (R := fun r => r = .tup []) ?_ (by rintro v rfl ρ; simp only [AV.ren, AV.rens])
 refine FnOk.of_WW Tryz.func286 rfl C286ok R286ok EM good_EM ?_
 have hw01 : IntKind.i64.wrap (0 + 1) = 1 := rfl
 have hw11 : IntKind.i64.wrap (1 + 1) = 2 := rfl
 have hw10 : IntKind.i64.wrap (1 - 1) = 0 := rfl
 have hren := hA.ren
 simp only [go_sem, C286, hw01]
 refine LL.st good_EM (fun i : Nat => 2 - i) (fun i => i = 1 ∨ i = 2) (fun i => [(.z, v), ((.o .z), .int .i64 0), ((.i .z), .int .i64 2), ((.o (.o .z)), .fn (.func 214) [] []), ((.i (.o (.o .z))), .int .i64 i)]) (fun _ => []) ?_ 1 (σ := []) (Wk.of rfl (by decide) (by simp only [go_sem, hren]; first | done | rfl | trace_state) (by simp only [go_sem])) (.inl rfl)
 rintro i (rfl | rfl)
 ·simp only [go_sem]
  refine LL.st good_EM (fun _ : Nat => 0) (fun _ => True) (fun _ => [(.z, v), ((.o .z), .int .i64 0), ((.i .z), .int .i64 2), ((.o (.o .z)), .fn (.func 214) [] []), ((.i (.o (.o .z))), .int .i64 1), ((.o (.i (.o .z))), .int .i64 1)]) (fun _ => []) ?_ 0 (σ := []) (Wk.of rfl (by decide) (by simp only [go_sem, hren]; first | done | rfl | trace_state) (by simp only [go_sem])) trivial
  rintro _ _
  obtain ⟨kk, r, ex', cap', wr, rows, hv, hrho, hgo, hrow⟩ := hA.at hok (j := 1) (Nat.lt_succ_self 1)
  obtain ⟨kk', r', ex'', cap'', wr', rows', hv', hrho', hgo', hrow'⟩ := hA.at hok (j := 0) (Nat.zero_lt_succ _)
  rw [hv] at hv'
  injection hv' with e1 e2 e3 e4 e5 e6
  subst e1
  have e7 := Option.some.inj ((hgo []).symm.trans (hgo' []))
  injection e7 with e7 e8 e9
  subst e9
  have e2' : r' = r := by omega
  subst e2'
  simp only [List.getElem_cons_zero, List.getElem_cons_succ, Sh.enc, Nat.add_zero] at hrow hrow'
  have hs' := eq_false hs
  have h88 : r' * 8 + 8 = (r' + 1) * 8 := by omega
  simp only [go_sem, hv, hgo, hw10, h88, hrow, hrow', em86, hs', hw11]
  exact ⟨2, by show 2 - 2 < 2 - 1; decide, .inr rfl, _, [], rfl, Wk.of rfl (by decide) (by simp only [go_sem, hren, hv, hrho]; first | done | rfl | trace_state) (by simp only [go_sem])⟩
 ·simp only [go_sem]
  exact ⟨_, rfl⟩
end Go.Proofs
namespace Go.Proofs
open Go Go.Ev
variable {H : Heap}
theorem f286_ok {v : AV} {hs : List Sh} (hA : Arr H 8 v (hs.map Sh.enc)) (hs2 : sorted2 hs) : FnOk Tryz.prog 286 [v, .int .i64 0, .int .i64 hs.length, .fn (.func 214) [] []] H fun r G => r = .tup [] ∧ G = H := by
 match hs, hA, hs2 with
 | [], _, _ => exact f286_one (n := 0) (by decide) _
 | [_], _, _ => exact f286_one (n := 1) (by decide) _
 | [a, b], hA, hs2 => exact f286_two hA hs2
 | _ :: _ :: _ :: _, _, h => exact absurd (show _ + 1 + 1 + 1 ≤ 1 from h) (by omega)
theorem sorted2_len {hs : List Sh} (h : sorted2 hs) : hs.length ≤ 2 := by
 match hs, h with
 | [], _ => exact Nat.zero_le _
 | [_], _ => exact Nat.le_succ 1
 | [_, _], _ => exact Nat.le_refl 2
 | _ :: _ :: _ :: _, h => exact absurd (show _ + 1 + 1 + 1 ≤ 1 from h) (by omega)
theorem f252_ok {v : AV} {hs : List Sh} (hA : Arr H 8 v (hs.map Sh.enc)) (hs2 : sorted2 hs) : FnOk Tryz.prog 252 [v, .int .i64 hs.length, .fn (.func 214) [] []] H fun r G => r = .tup [] ∧ G = H := by
 refine FnOk.drop (R := fun r => r = .tup []) ?_ (by rintro v rfl ρ; simp only [AV.ren, AV.rens])
 refine FnOk.of_WW Tryz.func252 rfl C252ok R252ok E0 good_E0 ?_
 have hren := hA.ren
 have hl := sorted2_len hs2
 have hc : ¬ (20 : Int) ≤ (hs.length : Int) := by omega
 have hc2 : ¬ (20 : Int) < (hs.length : Int) := by omega
 simp only [go_sem, C252]
 refine LL.st good_E0 (fun _ : Nat => 0) (fun _ => True) (fun _ => [(.z, v), ((.o .z), .int .i64 hs.length), ((.i .z), .fn (.func 214) [] []), ((.i (.i .z)), .int .i64 20), ((.o (.o (.o .z))), .int .i64 0), ((.i (.o (.o .z))), .int .i64 20)]) (fun _ => []) ?_ 0 (σ := []) (Wk.of rfl (by decide) (by simp only [go_sem, hren]; first | done | rfl | trace_state) (by simp only [go_sem])) trivial
 rintro _ _
 simp only [go_sem, hc]
 refine CL.of (f286_ok (hA.ext _) hs2) ?_
 rintro _ G' ⟨rfl, hG⟩; rw [hG]; clear hG
 simp only [go_sem]
 refine LL.st good_E0 (fun _ : Nat => 0) (fun _ => True) (fun _ => [((.o .z), .int .i64 hs.length), ((.i (.i .z)), .int .i64 20)]) (fun _ => []) ?_ 0 (σ := []) (Wk.of rfl (by decide) (by simp only [go_sem, hren]; first | done | rfl | trace_state) (by simp only [go_sem])) trivial
 rintro _ _
 simp only [go_sem, hc2]
 exact ⟨_, rfl⟩
theorem f213_ok {v : AV} {hs : List Sh} (hA : Arr H 8 v (hs.map Sh.enc)) (hs2 : sorted2 hs) : FnOk Tryz.prog 213 [v, .fn (.func 214) [] []] H fun r G => r = .tup [] ∧ G = H := by
 refine FnOk.drop (R := fun r => r = .tup []) ?_ (by rintro v rfl ρ; simp only [AV.ren, AV.rens])
 refine FnOk.of_WW Tryz.func213 rfl C213ok R213ok E0 good_E0 ?_
 have hlen := fun G => hA.len G
 simp only [List.length_map] at hlen
 simp only [go_sem, C213, hlen]
 refine CL.of (f252_ok (hA.ext _) hs2) ?_
 rintro _ G' ⟨rfl, hG⟩; rw [hG]; clear hG
 simp only [go_sem]
 exact ⟨_, rfl⟩
theorem f170_ok {G : Heap} {k : K} {lv gv : AV} {hs : List Sh} {gs : List Gn} (h : isHd G k lv gv hs gs) (hs2 : sorted2 hs) : FnOk Tryz.prog 170 [.ptr k 0] G fun r G' => r = .tup [] ∧ G' = G := by
 refine FnOk.drop (R := fun r => r = .tup []) ?_ (by rintro v rfl ρ; simp only [AV.ren, AV.rens])
 refine FnOk.of_WW Tryz.func170 rfl C170ok R170ok E0 good_E0 ?_
 have hk : ∀ L, (G.ext L).get k = _ := fun L => Heap.get_ext_old h.ok h.row L
 simp only [go_sem, C170, hk]
 refine CL.of (f213_ok (h.l.ext _) hs2) ?_
 rintro _ G' ⟨rfl, hG⟩; rw [hG]; clear hG
 simp only [go_sem]
 exact ⟨_, rfl⟩
theorem f220_only {G : Heap} {c : K} {s : Sh} (hok : G.ok) (hc : G.get c = some (.row true 8 [s.enc])) {g : FuncId} {caps : List AV} (hcall : ∀ args H, callC Tryz.prog g args H = .call g args)
  (hcaps : ∀ top σ, AV.ren (rho G top σ) (.fn (.func g) [] caps) = .fn (.func g) [] caps) {q : Sh → Bool} (hg : ∀ L, FnOk Tryz.prog g (.agg s.enc :: caps) (G.ext L) fun r G' => r = .bool (q s) ∧ G' = G.ext L) (hq : q s = true) :
  FnOk Tryz.prog 220 [.slice c 0 1 8 false 1, .fn (.func g) [] caps] G fun r G' => r = .slice c 0 0 8 false 1 ∧ G' = G.set c (.row true 8 [zS]) := by
 have hA : Arr G 8 (.slice c 0 1 8 false 1) ([s].map Sh.enc) := .inr ⟨c, 0, false, 1, rfl, hok c _ hc, fun _ => ⟨0, true, _, rfl, hc, rfl⟩⟩
 have hren : ∀ top σ, rho G top σ c = c := fun _ _ => rho_old (hok c _ hc)
 have hgo : ∀ L, (G.ext L).get c = _ := fun L => Heap.get_ext_old hok hc L
 refine FnOk.of_WW Tryz.func220 rfl C220ok R220ok E0 good_E0 ?_
 simp only [go_sem, C220]
 have h64 := f119_ok (q := q) hA (by show 1 ≤ 100000; decide) hcall hcaps (fun s' hs' L => by rw [List.mem_singleton.1 hs']; exact hg L)
 have hx : idx q [s] 0 = 0 := by unfold idx; rw [hq]; rfl
 rw [hx, ← Heap.ext_nil G] at h64
 have hw01 : IntKind.i64.wrap (0 + 1) = 1 := rfl
 refine CL.of h64 ?_
 rintro _ G' ⟨rfl, hG⟩
 rw [hG]
 clear hG
 simp only [go_sem, hw01]
 refine LL.st good_E0 (fun _ : Nat => 0) (fun _ => True) (fun _ => [(.z, .slice c 0 1 8 false 1), ((.o (.i .z)), .int .i64 0), ((.i (.i .z)), .int .i64 1)]) (fun _ => []) ?_ 0 (σ := []) (Wk.of rfl (by decide) (by simp only [go_sem, hren]; first | done | rfl | trace_state) (by simp only [go_sem])) trivial
 rintro _ _
 have hset := fun b (l : List Blk) (α : Type) (c' : Heap → α) => Heap.setC_here hok hc b l c'
 simp only [go_sem, hgo, hset]
 exact Heap.ext_nil _
end Go.Proofs
namespace Go.Proofs
open Go Go.Ev
variable {H : Heap}
structure Nx (k : K) (G G' : Heap) : Prop where
 keep : ∀ j b, k ≠ j → G.get j = some b → G'.get j = some b
 own : ∀ B : Heap, (∃ L, G = B.ext L) → B.nx.toNat ≤ k.toNat → ∃ L, G' = B.ext L
 le : G.nx.toNat ≤ G'.nx.toNat
theorem Nx.trans {k : K} {A B C : Heap} (h : Nx k A B) (g : Nx k B C) : Nx k A C := ⟨fun j b hj hb => g.keep j b hj (h.keep j b hj hb), fun D hD hk => g.own D (h.own D hD hk) hk, Nat.le_trans h.le g.le⟩
theorem ext_own {B G : Heap} (hB : ∃ L, G = B.ext L) (M : List Blk) : ∃ L, G.ext M = B.ext L := by
 obtain ⟨L, rfl⟩ := hB
 exact ⟨_, Heap.ext_append ..⟩
theorem Nx.set {k : K} {G : Heap} (hok : G.ok) {c : Blk} (hk : G.get k = some c) (b : Blk) (L : List Blk) : Nx k G ((G.set k b).ext L) :=
 ⟨fun j d hj hd => Heap.get_set_there hok hd hj b L, fun _ hB hl => ext_own (set_own hok hk hB hl) L, by rw [Heap.nx_ext, Heap.toNat_key]; exact Nat.le_add_right _ _⟩
theorem Nx.ext {k : K} {G : Heap} (hok : G.ok) (L : List Blk) : Nx k G (G.ext L) := ⟨fun j d _ hd => Heap.get_ext_old hok hd L, fun _ hB _ => ext_own hB L, by rw [Heap.nx_ext, Heap.toNat_key]; exact Nat.le_add_right _ _⟩
theorem Nx.arr {k : K} {G G' : Heap} (h : Nx k G G') {wr : Bool} {rows : List (List AV)} (hk : G.get k = some (.row wr 2 rows)) {e : Nat} (he : e ≠ 2) {v : AV} {xs : List (List AV)} (hA : Arr G e v xs) : Arr G' e v xs := by
 rcases hA with g | ⟨c, off, ex, cap, hv, hc, g⟩
 ·exact .inl g
 ·refine .inr ⟨c, off, ex, cap, hv, Nat.lt_of_lt_of_le hc h.le, fun hx => ?_⟩
  obtain ⟨r, wr', rows', h1, h2, h3⟩ := g hx
  refine ⟨r, wr', rows', h1, h.keep c _ ?_ h2, h3⟩
  rintro rfl
  rw [hk] at h2
  injection h2 with h2
  injection h2 with _ h2 _
  exact he h2.symm
theorem Nx.sh {k : K} {G G' : Heap} (h : Nx k G G') {wr : Bool} {rows : List (List AV)} (hk : G.get k = some (.row wr 2 rows)) {s : Sh} (hs : s.ok G) (hb : smallS s) : s.ok G' :=
 ⟨h.arr hk (by decide) hs.c, h.arr hk (by decide) hs.e, h.arr hk (by decide) hs.d, bareL.ok hb.b _, hs.cl, hs.el, hs.dl⟩
section
variable {G : Heap} {k : K} {lv gv : AV} {hs : List Sh} {gs : List Gn}
theorem gone_set (h : isHd G k lv gv hs gs) (b : Blk) : Arr (G.set k b) 2 gv (gs.map Gn.enc) := by
 rcases h.g with g | ⟨j, off, ex, cap, hv, hj, g⟩
 ·exact .inl g
 ·refine .inr ⟨j, off, ex, cap, hv, hj, fun hx => ?_⟩
  obtain ⟨r, wr', rows', h1, h2, h3⟩ := g hx
  refine ⟨r, wr', rows', h1, ?_, h3⟩
  rw [Heap.get_set, if_neg fun e => ?_]
  ·exact h2
  ·subst e
   have h4 := h.row
   rw [h2] at h4
   have h5 := Option.some.inj h4
   injection h5 with _ _ h5
   subst h5
   have hl := h.l
   cases gs with
   | nil => exact hx rfl
   | cons c l =>
    cases r with
    | zero =>
     have h6 := congrArg (fun z => z[0]?) h3
     simp only [List.map_cons, List.length_cons, List.drop_zero, List.take_succ_cons, List.getElem?_cons_zero, Gn.enc] at h6
     have h7 := Option.some.inj h6
     injection h7 with h7 _
     subst h7
     rcases hl with ⟨e, _⟩ | ⟨_, _, _, _, e, _⟩ <;> cases e
    | succ r => simp at h3
theorem ok_set' {s : Sh} (h : isHd G k lv gv hs gs) (hs' : s.ok G) (hb : smallS s) (b : Blk) : s.ok (G.set k b) :=
 ⟨hs'.c.set h.row (by decide), hs'.e.set h.row (by decide), hs'.d.set h.row (by decide), bareL.ok hb.b _, hs'.cl, hs'.el, hs'.dl⟩
theorem isHd.put {hs' : List Sh} (h : isHd G k lv gv hs gs) {L : List Blk} {j : Nat} (hj : L[j]? = some (.row true 8 (hs'.map Sh.enc))) (ho : ∀ s ∈ hs', s.ok G) (hsm : ∀ s ∈ hs', smallS s) (hl : hs'.length ≤ 8) (cap : Nat) (ex : Bool) :
  isHd ((G.set k (.row true 2 [[.slice (G.key j) 0 hs'.length 8 ex cap, gv]])).ext L) k (.slice (G.key j) 0 hs'.length 8 ex cap) gv hs' gs := by
 have hok := Heap.ok_ext (Heap.ok_set h.ok h.row (b := .row true 2 [[.slice (G.key j) 0 hs'.length 8 ex cap, gv]])) L
 have hjl := (List.getElem?_eq_some_iff.1 hj).1
 have hg : ((G.set k (.row true 2 [[.slice (G.key j) 0 hs'.length 8 ex cap, gv]])).ext L).get (G.key j) = some (.row true 8 (hs'.map Sh.enc)) := by rw [Heap.get_key_set hjl, hj]
 refine ⟨hok, Heap.get_set_here h.ok h.row _ L, .inr ⟨G.key j, 0, ex, cap, by rw [List.length_map], hok _ _ hg, fun _ => ⟨0, true, _, rfl, hg, ?_⟩⟩, (gone_set h _).ext L, fun s hs => (ok_set' h (ho s hs) (hsm s hs) _).ext L, hsm, hl, h.few.2⟩
 rw [List.drop_zero, List.take_length]
theorem f222_ok {H : Heap} {c : K} {wr : Bool} {s : Sh} (hk : H.get c = some (.row wr 8 [s.enc])) (o : Sh) : FnOk Tryz.prog 222 [.agg o.enc, .ptr c 0] H fun r G => r = .bool (decide (o.id = s.id)) ∧ G = H := by
 refine FnOk.assume fun hok => ?_
 refine FnOk.drop (R := fun r => r = .bool (decide (o.id = s.id))) ?_ (by rintro v rfl ρ; rw [AV.ren])
 refine FnOk.of_WW Tryz.func222 rfl C222ok R222ok E0 good_E0 ?_
 have hgo := Heap.get_ext_old hok hk
 simp only [Sh.enc] at hgo
 simp only [go_sem, C222, Sh.enc, hgo]
 exact ⟨fun h => ⟨bool_t h, _, rfl⟩, fun h => ⟨bool_f h, _, rfl⟩⟩
theorem clo97 : CloFn Tryz.prog 221 8 128 [.int .i64 0, .int .i64 0, .str [], .str [], .bool false, .nils, .nils, .nils] := ⟨⟨Tryz.f221, Tryz.func221, by kernel_rfl, by kernel_rfl⟩, rfl, by decide⟩
theorem shs_rens {l : List Sh} (h : ∀ s ∈ l, s.ok G) (top : Nat) (σ : List Nat) : (l.map Sh.enc).map (AV.rens (rho G top σ)) = l.map Sh.enc := by
 rw [List.map_map]
 exact List.map_congr_left fun s hs => (h s hs).ren top σ
end
end Go.Proofs
namespace Go.Proofs
open Go Go.Ev
variable {H : Heap}
section
variable {P : Program} {φ : Phi} {w : World}
theorem cell_of_row (hw : WRel P φ H w) {k : K} {x : AV} {a : At} (hk : H.get k = some (.row true 1 [[x]])) (hφ : φ k = some a) : ∃ v, w.cell? ⟨a.b, a.o, none⟩ = some v ∧ VRel P φ x v ∧ w.frozen? ⟨a.b, a.o, none⟩ = false := by
 obtain ⟨hp, _, pre, vs, post, e, lo, hi, g1, g2, g3, g4, g5, g6⟩ := hw.blk k _ a hk hφ
 have g5 : VRels P φ [x] vs := g5
 cases g5 with
 | cons _ _ v l h1 h2 =>
  cases h2
  refine ⟨v, ?_, h1, ?_⟩
  ·simp only [World.cell?, g1]
   simp [← g2]
  ·simp only [World.frozen?, g1]
   have h4 := g4 rfl
   simp at g3 ⊢
   omega
theorem FnOk.of_calls_set {f : FuncId} {args : List AV} {k : K} {x y v : AV} {y' : Value} (hk : H.get k = some (.row true 1 [[x]])) (hy : ∀ φ, VRel P φ y y') (hone : y'.oneCell' = true) (hv : ∀ φ, ∃ v', VRel P φ v v')
  (h : ∀ φ w args', VRels P φ args args'.toList → WRel P φ H w → ∃ a, φ k = some a ∧ ∀ old, w.cell? ⟨a.b, a.o, none⟩ = some old → w.frozen? ⟨a.b, a.o, none⟩ = false →
   Calls P f args' w fun e u => (∃ v', e = .returned v' ∧ VRel P φ v v') ∧ ∃ w4, Grows w w4 ∧ u = w4.setCell ⟨a.b, a.o, none⟩ y') :
  FnOk P f args H fun r G => r = v ∧ G = H.set k (.row true 1 [[y]]) := by
 intro φ w args' ha hw
 obtain ⟨a, hφ, hc⟩ := h φ w args' ha hw
 obtain ⟨old, h1, _, h2⟩ := cell_of_row hw hk hφ
 refine (hc old h1 h2).mono ?_
 rintro e u ⟨⟨v', rfl, hv'⟩, w4, hg, rfl⟩
 have hw4 := hw.grows hg.size hg.old
 obtain ⟨old4, h14, _, h24⟩ := cell_of_row hw4 hk hφ
 obtain ⟨u, hst, hwu, hE⟩ := storeCells_sound (off := 0) (vals := [y]) (vals' := [y']) (rows' := [[y]]) hw4 hk hφ (.cons _ _ _ _ (hy φ) .nil) (by intro z hz; rw [List.mem_singleton.1 hz]; exact hone) (put_rows 1 [[x]] [[y]] 0 (by intro z hz; rw [List.mem_singleton.1 hz]; rfl) (by intro z hz; rw [List.mem_singleton.1 hz]; rfl) (Nat.le_refl 1))
 have hst' : (storeCells ⟨a.b, a.o, none⟩ [y']).run P w4 = .ok () (w4.setCell ⟨a.b, a.o, none⟩ y') := by
  simp only [storeCells, Addr.add, Sem.run_bind, Nat.add_zero, if_true]
  rw [run_store P w4 _ _ _ hone, h14]
  simp [h24]
 rw [Nat.add_zero] at hst
 rw [hst] at hst'
 injection hst' with _ hu
 subst hu
 refine ⟨v, _, ⟨rfl, rfl⟩, φ, v', rfl, hv', hwu, ?_⟩
 exact ⟨hE.phi, hE.nx, Nat.le_trans hg.size hE.size, fun b hb hn => by rw [hE.keeps b (Nat.lt_of_lt_of_le hb hg.size) hn, hg.old b hb], hE.hidden, fun b hb ho => hE.own b (Nat.lt_of_lt_of_le hb hg.size) ho, hE.os.trans hg.os, hE.tape.trans hg.tape, hE.output.trans hg.output⟩
end
theorem f113_none (x : AV) : FnOk Tryz.prog 113 [.nili, x] H fun r G => r = .bool false ∧ G = H := by
 refine FnOk.of_calls fun φ w args' ha hw => ?_
 obtain ⟨v, u, rfl, h1, h2⟩ := two_args ha
 have e1 := errV_inv (e := none) h1
 obtain rfl : v = .nilIface := e1
 refine (as_nil u w).mono ?_
 rintro e w' ⟨rfl, rfl⟩
 exact ⟨⟨_, rfl, .bool _⟩, Grows.refl _⟩
theorem f113_some {k : K} {x : AV} (hk : H.get k = some (.row true 1 [[x]])) (n : Int) : FnOk Tryz.prog 113 [.iface 125 (.int .i64 n), .iface 176 (.ptr k 0)] H fun r G => r = .bool true ∧ G = H.set k (.row true 1 [[.int .i64 n]]) := by
 refine FnOk.of_calls_set (y' := .int .i64 n) hk (fun φ => .int _ _) rfl (fun φ => ⟨_, .bool _⟩) fun φ w args' ha hw => ?_
 obtain ⟨v, u, rfl, h1, h2⟩ := two_args ha
 have e1 := errV_inv (e := some n) h1
 obtain rfl : v = .iface 125 (.int .i64 n) := e1
 cases h2 with
 | iface _ _ u' h2 =>
  cases h2 with
  | ptr _ _ a ha2 =>
   refine ⟨a, ha2, fun old ho hf => ?_⟩
   refine (as_hit n ⟨a.b, a.o, none⟩ old w (hw.rom 0 _ (List.mem_singleton.2 rfl)).1 ho hf).mono ?_
   rintro e w' ⟨rfl, rfl⟩
   exact ⟨⟨_, rfl, .bool _⟩, _, (((Grows.alloc _ _).trans (Grows.alloc _ _)).trans (Grows.alloc _ _)).trans (Grows.alloc _ _), rfl⟩
end Go.Proofs
namespace Go.Proofs
open Go Go.Ev
variable {H : Heap}
section
variable {G : Heap} {k : K} {lv gv : AV} {hs : List Sh} {gs : List Gn}
theorem idx_one {α : Type} {q : α → Bool} {s : α} (h : q s = true) : idx q [s] 0 = ((0 : Nat) : Int) := by unfold idx; rw [h]; rfl
end
end Go.Proofs
namespace Go.Proofs
open Go Go.Ev
variable {H : Heap}
def zA : List AV := [.int .i64 0, .str [], .int .i64 0, .nils]
theorem f80_ok {kd : Int} (hk : ¬ kd = 6) (key : List Nat) (a b c d : AV) : FnOk Tryz.prog 80 [.agg [.int .i64 kd, .str key, a, b, c, d]] H fun r G => r = .str key ∧ G = H := by
 refine FnOk.drop (R := fun r => r = .str key) ?_ (by rintro v rfl ρ; rw [AV.ren])
 refine FnOk.of_WW Tryz.func80 rfl C80ok R80ok E0 good_E0 ?_
 have z1 := eq_false hk
 simp only [go_sem, C80, z1]
 exact ⟨_, rfl⟩
section
variable {G : Heap} {k : K} {lv gv : AV} {hs : List Sh} {gs : List Gn}
theorem isHd.reset (h : isHd G k lv gv hs gs) : isHd (G.set k (.row true 2 [[lv, gv]])) k lv gv hs gs := by
 have h1 := Heap.get_set_here h.ok h.row (.row true 2 [[lv, gv]]) []
 rw [Heap.ext_nil] at h1
 exact ⟨Heap.ok_set h.ok h.row, h1, h.l.set h.row (by decide), gone_set h _, fun s hs => ok_set' h (h.each s hs) (h.small s hs) _, h.small, h.few⟩
theorem evs_cell {j : K} {wr : Bool} {a : Int} {x y z v : AV} {l : List Evn} (h : Arr G 4 v (l.map Evn.enc)) (hj : G.get j = some (.row wr 4 [[.int .i64 a, x, y, z]])) (b : Blk) : Arr (G.set j b) 4 v (l.map Evn.enc) := by
 rcases h with g | ⟨c, off, ex, cap, hv, hc, g⟩
 ·exact .inl g
 ·refine .inr ⟨c, off, ex, cap, hv, hc, fun hx => ?_⟩
  obtain ⟨r, wr', rows', h1, h2, h3⟩ := g hx
  refine ⟨r, wr', rows', h1, ?_, h3⟩
  rw [Heap.get_set, if_neg fun e => ?_]
  ·exact h2
  ·subst e
   rw [h2] at hj
   have h5 := Option.some.inj hj
   injection h5 with _ _ h5
   subst h5
   cases l with
   | nil => exact hx rfl
   | cons c l =>
    cases r with
    | zero =>
     have h6 := congrArg (fun z => z[0]?) h3
     simp only [List.map_cons, List.length_cons, List.drop_zero, List.take_succ_cons, List.getElem?_cons_zero, Evn.enc] at h6
     have h7 := Option.some.inj h6
     injection h7 with h7 _
     cases h7
    | succ r => simp at h3
theorem isHd.cell (h : isHd G k lv gv hs gs) {j : K} {wr : Bool} {a : Int} {x y z : AV} (hj : G.get j = some (.row wr 4 [[.int .i64 a, x, y, z]])) (b : Blk) : isHd (G.set j b) k lv gv hs gs := by
 refine ⟨Heap.ok_set h.ok hj, ?_, h.l.set hj (by decide), h.g.set hj (by decide), fun s hs => ?_, h.small, h.few⟩
 ·rw [Heap.get_set, if_neg fun e => ?_]
  ·exact h.row
  ·subst e
   have h1 := h.row
   rw [hj] at h1
   cases h1
 ·have ho := h.each s hs
  exact ⟨ho.c.set hj (by decide), evs_cell ho.e hj b, ho.d.set hj (by decide), bareL.ok (h.small s hs).b _, ho.cl, ho.el, ho.dl⟩
theorem ne_key {b : Blk} (hok : G.ok) (h : G.get k = some b) (i : Nat) : k ≠ G.key i := by
 rintro rfl
 have := hok _ _ h
 rw [Heap.toNat_key] at this
 omega
theorem Nx.cell {G' : Heap} (h : Nx k G G') (hok : G.ok) (hok' : G'.ok) {i : Nat} {c : Blk} (hc : G'.get (G.key i) = some c) (b : Blk) (L : List Blk) : Nx k G ((G'.set (G.key i) b).ext L) :=
 ⟨fun j d hj hd => Heap.get_set_there hok' (h.keep j d hj hd) (fun e => ne_key hok hd i e.symm) b L,
  fun B hB hl => ext_own (set_own hok' hc (h.own B hB hl) (by obtain ⟨M, rfl⟩ := hB; rw [Heap.toNat_key, Heap.nx_ext, Heap.toNat_key]; omega)) L,
  by rw [Heap.nx_ext, Heap.toNat_key]; exact Nat.le_trans h.le (Nat.le_add_right _ _)⟩
end
end Go.Proofs
namespace Go.Proofs
open Go Go.Ev
variable {H : Heap}
theorem f254_one {v : AV} {n : Nat} (hn : n ≤ 1) (g : AV) : FnOk Tryz.prog 254 [v, .int .i64 0, .int .i64 n, g] H fun r G => r = .tup [] ∧ G = H := by
 refine FnOk.drop (R := fun r => r = .tup []) ?_ (by rintro v rfl ρ; simp only [AV.ren, AV.rens])
 refine FnOk.of_WW Tryz.func254 rfl C254ok R254ok E0 good_E0 ?_
 have hw01 : IntKind.i64.wrap (0 + 1) = 1 := rfl
 have hc : ¬ (1 : Int) < (n : Int) := by omega
 simp only [go_sem, C254, hw01]
 refine LL.st good_E0 (fun _ : Nat => 0) (fun _ => True) (fun _ => [((.i .z), .int .i64 n), ((.i (.o (.o .z))), .int .i64 1)]) (fun _ => []) ?_ 0 (σ := []) (Wk.of rfl (by decide) (by simp only [go_sem]; first | done | rfl | trace_state) (by simp only [go_sem])) trivial
 rintro _ _
 simp only [go_sem, hc]
 exact ⟨_, rfl⟩
theorem f263_ok {n : Nat} (hn : n ≤ 1) : FnOk Tryz.prog 263 [.int .u64 n] H fun r G => r = .int .i64 n ∧ G = H := by
 refine FnOk.drop (R := fun r => r = .int .i64 n) ?_ (by rintro v rfl ρ; rw [AV.ren])
 refine FnOk.of_WW Tryz.func263 rfl C263ok R263ok E0 good_E0 ?_
 have h : n = 0 ∨ n = 1 := by omega
 have hw0 : IntKind.i64.wrap (0 + 0) = 0 := rfl
 have hw1 : IntKind.i64.wrap (0 + 1) = 1 := rfl
 have u0 : IntKind.u8.wrap 0 = ((0 : Nat) : Int) := rfl
 have u1 : IntKind.u8.wrap 1 = ((1 : Nat) : Int) := rfl
 have i0 : IntKind.i64.wrap 0 = 0 := rfl
 have i1 : IntKind.i64.wrap 1 = 1 := rfl
 rcases h with rfl | rfl
 ·simp only [go_sem, C263, hw0, hw1, u0, u1, i0, i1, Int.ofNat_zero, Int.natCast_zero, Int.ofNat_one, Int.natCast_one]
  exact ⟨_, rfl⟩
 ·simp only [go_sem, C263, hw0, hw1, u0, u1, i0, i1, Int.ofNat_zero, Int.natCast_zero, Int.ofNat_one, Int.natCast_one]
  exact ⟨_, rfl⟩
theorem f218_ok {n : Nat} (hn : n ≤ 1) : FnOk Tryz.prog 218 [.int .u64 n] H fun r G => r = .int .i64 n ∧ G = H := by
 refine FnOk.drop (R := fun r => r = .int .i64 n) ?_ (by rintro v rfl ρ; rw [AV.ren])
 refine FnOk.of_WW Tryz.func218 rfl C218ok R218ok E0 good_E0 ?_
 simp only [go_sem, C218]
 refine CL.of (f263_ok hn) ?_
 rintro _ G' ⟨rfl, hG⟩; rw [hG]; clear hG
 simp only [go_sem]
 exact ⟨_, rfl⟩
theorem f217_ok {v : AV} (hv : ∀ top σ, AV.ren (rho H top σ) v = v) {n : Nat} (hn : n ≤ 1) (f : FuncId) : FnOk Tryz.prog 217 [v, .int .i64 0, .int .i64 n, .int .i64 n, .fn (.func f) [] []] H fun r G => r = .tup [] ∧ G = H := by
 refine FnOk.drop (R := fun r => r = .tup []) ?_ (by rintro v rfl ρ; simp only [AV.ren, AV.rens])
 refine FnOk.of_WW Tryz.func217 rfl C217ok R217ok E0 good_E0 ?_
 have hw : IntKind.i64.wrap ((n : Int) - 0) = n := by rw [Int.sub_zero]; exact wrap_i64 (by omega) (by omega)
 have hc : (n : Int) ≤ 12 := by omega
 simp only [go_sem, C217]
 refine LL.st good_E0 (fun _ : Nat => 0) (fun _ => True) (fun _ => [(.z, v), ((.o .z), .int .i64 0), ((.i .z), .int .i64 n), ((.i (.o .z)), .fn (.func f) [] [])]) (fun _ => []) ?_ 0 (σ := []) (Wk.of rfl (by decide) (by simp only [go_sem, hv]; first | done | rfl | trace_state) (by simp only [go_sem])) trivial
 rintro _ _
 simp only [go_sem, hw, hc]
 refine CL.of (f254_one hn _) ?_
 rintro _ G' ⟨rfl, hG⟩; rw [hG]; clear hG
 simp only [go_sem]
 exact ⟨_, rfl⟩
theorem f171_ok {v : AV} {gs : List Gn} (hA : Arr H 2 v (gs.map Gn.enc)) (hn : gs.length ≤ 1) (f : FuncId) : FnOk Tryz.prog 171 [v, .fn (.func f) [] []] H fun r G => r = .tup [] ∧ G = H := by
 refine FnOk.drop (R := fun r => r = .tup []) ?_ (by rintro v rfl ρ; simp only [AV.ren, AV.rens])
 refine FnOk.of_WW Tryz.func171 rfl C171ok R171ok E0 good_E0 ?_
 have hlen := fun G => hA.len G
 simp only [List.length_map] at hlen
 have hw : IntKind.u64.wrap (gs.length : Int) = gs.length := by
  have h : gs.length = 0 ∨ gs.length = 1 := by omega
  rcases h with h | h <;> rw [h] <;> rfl
 simp only [go_sem, C171, hlen, hw]
 refine CL.of (f218_ok hn) ?_
 rintro _ G' ⟨rfl, hG⟩; rw [hG]; clear hG
 simp only [go_sem]
 refine CL.of (f217_ok (fun top σ => (hA.ext _).ren top σ) hn f) ?_
 rintro _ G' ⟨rfl, hG⟩; rw [hG]; clear hG
 simp only [go_sem]
 exact ⟨_, rfl⟩
def nS (id ep : Int) (fr to : List Nat) (z : Bool) : Sh := ⟨id, ep, fr, to, z, [], [], [], .nils, .nils, .nils⟩
theorem nS_ok (H : Heap) (id ep : Int) (fr to : List Nat) (z : Bool) : (nS id ep fr to z).ok H := ⟨.inl ⟨rfl, rfl⟩, .inl ⟨rfl, rfl⟩, .inl ⟨rfl, rfl⟩, fun d hd => absurd hd List.not_mem_nil, Nat.lt_of_sub_eq_succ rfl, Nat.lt_of_sub_eq_succ rfl, Nat.lt_of_sub_eq_succ rfl⟩
theorem nS_small (id ep : Int) (fr to : List Nat) (z : Bool) : smallS (nS id ep fr to z) := ⟨fun d hd => absurd hd List.not_mem_nil, Nat.lt_of_sub_eq_succ rfl, Nat.lt_of_sub_eq_succ rfl, Nat.lt_of_sub_eq_succ rfl⟩
theorem f45_n (id ep : Int) (fr to : List Nat) (z : Bool) : FnOk Tryz.prog 45 [.agg (nS id ep fr to z).enc] H fun r G => r = .agg (nS id ep fr to z).enc ∧ G = H := by
 refine FnOk.drop (R := fun r => r = .agg (nS id ep fr to z).enc) ?_ (by rintro v rfl ρ; simp only [nS, Sh.enc, AV.ren, AV.rens])
 refine (f45_ok (nS_ok H id ep fr to z) (nS_small ..)).mono ?_
 rintro r G ⟨rfl, rfl⟩
 exact ⟨rfl, _, rfl⟩
noncomputable def ECp (f : FuncId) (args : List AV) (H : Heap) : RC :=
 match f with
 | 45 => match args with | [.agg [.int .i64 id, .int .i64 ep, .str fr, .str to, .bool z, .nils, .nils, .nils]] => .ok (.agg [.int .i64 id, .int .i64 ep, .str fr, .str to, .bool z, .nils, .nils, .nils]) H | _ => .fail
 | _ => .fail
theorem good_ECp : Ev.Good Tryz.prog ECp := by
 intro f args H r G he φ w args' ha hw
 refine (?_ : FnOk Tryz.prog f args H fun v' G' => v' = r ∧ G' = G).one φ w args' ha hw
 unfold ECp at he
 split at he
 ·split at he
  ·cases he; exact f45_n _ _ _ _ _
  ·cases he
 ·cases he
theorem ec41 (id ep : Int) (fr to : List Nat) (z : Bool) (H : Heap) : ECp 45 [.agg [.int .i64 id, .int .i64 ep, .str fr, .str to, .bool z, .nils, .nils, .nils]] H = .ok (.agg [.int .i64 id, .int .i64 ep, .str fr, .str to, .bool z, .nils, .nils, .nils]) H := rfl
theorem clo42 : CloFn Tryz.prog 126 2 16 [.int .i64 0, .int .i64 0] := ⟨⟨Tryz.f126, Tryz.func126, by kernel_rfl, by kernel_rfl⟩, rfl, by decide⟩
theorem f169_ok {s : Sh} (h : s.ok H) : FnOk Tryz.prog 169 [.agg s.enc] H fun r G => r = .bool (decide (¬ isSh s)) ∧ G = H := by
 refine FnOk.drop (R := fun r => r = .bool (decide (¬ isSh s))) ?_ (by rintro v rfl ρ; rw [AV.ren])
 refine FnOk.of_WW Tryz.func169 rfl C169ok R169ok E0 good_E0 ?_
 simp only [go_sem, C169, Sh.enc]
 refine CL.bool (f21_ok (h.ext _)) (fun g => ?_) (fun g => ?_)
 ·simp only [go_sem]
  exact ⟨bool_f fun h => h g, _, rfl⟩
 ·simp only [go_sem]
  exact ⟨bool_t g, _, rfl⟩
theorem f168_one {s : Sh} (h : s.ok H) (hs : isSh s) {v : AV} (hA : Arr H 8 v [s.enc]) : FnOk Tryz.prog 168 [v, .fn (.func 169) [] []] H fun r G => r = .bool false ∧ G = H := by
 refine FnOk.drop (R := fun r => r = .bool false) ?_ (by rintro v rfl ρ; rw [AV.ren])
 refine FnOk.of_WW Tryz.func168 rfl C168ok R168ok E0 good_E0 ?_
 simp only [go_sem, C168]
 have h64 := f119_ok (l := [s]) (caps := []) (q := fun s => decide (¬ isSh s)) hA (by show 1 ≤ 100000; decide) (fun _ _ => call169 ..) (fun _ _ => by simp only [AV.ren, AV.rens]) (fun x hx L => by rw [List.mem_singleton.1 hx]; exact f169_ok (h.ext L))
 have hx : idx (fun s => decide (¬ isSh s)) [s] 0 = -1 := by unfold idx; rw [decide_eq_false (fun g => g hs), if_neg Bool.false_ne_true]; rfl
 rw [hx, ← Heap.ext_nil H] at h64
 refine CL.of h64 ?_
 rintro _ G' ⟨rfl, hG⟩; rw [hG]; clear hG
 simp only [go_sem]
 exact ⟨_, rfl⟩
end Go.Proofs
namespace Go.Proofs
open Go Go.Ev
variable {H : Heap}
section
variable {G : Heap} {k : K}
end
theorem f23_ok : FnOk Tryz.prog 23 [] H fun r G => r = .ptr (H.key 0) 0 ∧ G = H.ext [.row true 2 [[.nils, .nils]]] := by
 refine FnOk.of_WW Tryz.func23 rfl C23ok R23ok E0 good_E0 ?_
 simp only [go_sem, C23]
theorem shOne (n : Int) (h1 : 1 ≤ n) (h2 : n ≤ 1000000) : isSh (nS 1 n [] [] false) := ⟨⟨by show (1 : Int) ≤ 1; decide, by show (1 : Int) ≤ 1000000000000; decide, h1, h2⟩, k_span, fun c hc => absurd hc List.not_mem_nil, by show (0 : Int) ≤ 24; decide, ⟨fun j h => absurd h (Nat.not_lt_zero _), fun e he => absurd he List.not_mem_nil, fun c hc => absurd hc List.not_mem_nil⟩, fun j h => absurd h (Nat.not_lt_zero _)⟩
end Go.Proofs
namespace Go.Proofs
open Go Go.Ev
variable {H : Heap}
theorem askS_ok {s : Sh} {G : Heap} {L : List Blk} {i j q : Nat} {k v : List Nat} {ses id : Int} (hc : (refW s.cells (nextC s.cells k v false)).length < 10000) (he : s.evs.length < 10000) (hd : (withD s.done ⟨ses, id, putA ((getL s.cells k).1.ver + 1)⟩).length < 10000) (hdok : allOk G s.done) (h1 : L[i]? = some (outB 5 ((askS s k v ses id .z .z .z).cells.map Cell.enc))) (h2 : L[j]? = some (outB 4 ((askS s k v ses id .z .z .z).evs.map Evn.enc))) (h3 : L[q]? = some (outB 6 ((askS s k v ses id .z .z .z).done.map Dn.enc))) : (askS s k v ses id (G.key i) (G.key j) (G.key q)).ok (G.ext L) where
 c := arr_outV h1 (by rw [List.length_map]; exact keepC_len _ _)
 e := arr_outV h2 (List.length_map ..)
 d := arr_outV h3 (List.length_map ..)
 dok := (withD_ok hdok (putA_ok G _)).ext L
 cl := by show (keepC _ _).length < _; rw [keepC_len]; omega
 el := by show (List.drop _ _).length < _; rw [List.length_drop, List.length_append]; show s.evs.length + 1 - _ < _; omega
 dl := by show (withD _ _).length < _; omega
end Go.Proofs
namespace Go.Proofs
open Go Go.Ev
variable {H : Heap}
theorem get_of_ext {M : Heap} {bl L : List Blk} (hM : M = (H.ext bl).ext L) {i : Nat} {x : Blk} (h : bl[i]? = some x) : M.get (H.key i) = some x := by rw [hM]; exact get_lit2 h
theorem set_of_ext {M : Heap} {bl L : List Blk} (hM : M = (H.ext bl).ext L) {i : Nat} (h : i < bl.length) (b : Blk) (l : List Blk) : ∃ M2, (M.set (H.key i) b).ext l = H.ext M2 := by
 rw [hM, Heap.ext_append, Heap.set_ext_key _ _ _ _ (by rw [List.length_append]; omega), Heap.ext_append]
 exact ⟨_, rfl⟩
section
variable {G : Heap} {k : K} {lv : AV}
end
end Go.Proofs
namespace Go.Proofs
open Go Go.Ev
variable {H : Heap}
theorem withL_leng (c : Cell) : ∀ l : List Cell, (withL l c).length ≤ l.length + 1
 | [] => Nat.le_refl _
 | d :: l => by
  unfold withL
  have := withL_leng c l
  split
  ·simp only [List.length_cons]; omega
  ·split <;> simp only [List.length_cons] <;> omega
section
variable {e : Int} {z : Bool} {i : Nat} {s : Sh}
end
end Go.Proofs
namespace Go.Proofs
open Go Go.Ev K
noncomputable def C10 := mkC Tryz.prog Tryz.f10 17
theorem C10ok : CCok Tryz.prog Tryz.f10 17 C10 := mkC_ok _
@[go_sem] theorem call10 (a H) : callC Tryz.prog 10 a H = .call 10 a := callC_ok (by kernel_rfl) a H
theorem R10ok : resKs Tryz.prog Tryz.f10.results.toList = some [RK.tmp z.i] := by kernel_rfl
noncomputable def C12 := mkC Tryz.prog Tryz.f12 7
theorem C12ok : CCok Tryz.prog Tryz.f12 7 C12 := mkC_ok _
@[go_sem] theorem call12 (a H) : callC Tryz.prog 12 a H = .call 12 a := callC_ok (by kernel_rfl) a H
theorem R12ok : resKs Tryz.prog Tryz.f12.results.toList = some [RK.tmp z.i] := by kernel_rfl
noncomputable def C14 := mkC Tryz.prog Tryz.f14 8
theorem C14ok : CCok Tryz.prog Tryz.f14 8 C14 := mkC_ok _
@[go_sem] theorem call14 (a H) : callC Tryz.prog 14 a H = .call 14 a := callC_ok (by kernel_rfl) a H
theorem R14ok : resKs Tryz.prog Tryz.f14.results.toList = some [RK.tmp z.i] := by kernel_rfl
noncomputable def C15 := mkC Tryz.prog Tryz.f15 8
theorem C15ok : CCok Tryz.prog Tryz.f15 8 C15 := mkC_ok _
@[go_sem] theorem call15 (a H) : callC Tryz.prog 15 a H = .call 15 a := callC_ok (by kernel_rfl) a H
theorem R15ok : resKs Tryz.prog Tryz.f15.results.toList = some [RK.tmp z.i] := by kernel_rfl
noncomputable def C26 := mkC Tryz.prog Tryz.f26 7
theorem C26ok : CCok Tryz.prog Tryz.f26 7 C26 := mkC_ok _
@[go_sem] theorem call26 (a H) : callC Tryz.prog 26 a H = .call 26 a := callC_ok (by kernel_rfl) a H
theorem R26ok : resKs Tryz.prog Tryz.f26.results.toList = some [] := by kernel_rfl
noncomputable def C46 := mkC Tryz.prog Tryz.f46 7
theorem C46ok : CCok Tryz.prog Tryz.f46 7 C46 := mkC_ok _
@[go_sem] theorem call46 (a H) : callC Tryz.prog 46 a H = .call 46 a := callC_ok (by kernel_rfl) a H
theorem R46ok : resKs Tryz.prog Tryz.f46.results.toList = some [RK.tmp z.i] := by kernel_rfl
noncomputable def C62 := mkC Tryz.prog Tryz.f62 7
theorem C62ok : CCok Tryz.prog Tryz.f62 7 C62 := mkC_ok _
@[go_sem] theorem call62 (a H) : callC Tryz.prog 62 a H = .call 62 a := callC_ok (by kernel_rfl) a H
theorem R62ok : resKs Tryz.prog Tryz.f62.results.toList = some [RK.tmp z.i] := by kernel_rfl
noncomputable def C67 := mkC Tryz.prog Tryz.f67 5
theorem C67ok : CCok Tryz.prog Tryz.f67 5 C67 := mkC_ok _
@[go_sem] theorem call67 (a H) : callC Tryz.prog 67 a H = .call 67 a := callC_ok (by kernel_rfl) a H
theorem R67ok : resKs Tryz.prog Tryz.f67.results.toList = some [] := by kernel_rfl
noncomputable def C85 := mkC Tryz.prog Tryz.f85 33
theorem C85ok : CCok Tryz.prog Tryz.f85 33 C85 := mkC_ok _
@[go_sem] theorem call85 (a H) : callC Tryz.prog 85 a H = .call 85 a := callC_ok (by kernel_rfl) a H
theorem R85ok : resKs Tryz.prog Tryz.f85.results.toList = some [] := by kernel_rfl
noncomputable def C136 := mkC Tryz.prog Tryz.f136 12
theorem C136ok : CCok Tryz.prog Tryz.f136 12 C136 := mkC_ok _
@[go_sem] theorem call136 (a H) : callC Tryz.prog 136 a H = .call 136 a := callC_ok (by kernel_rfl) a H
theorem R136ok : resKs Tryz.prog Tryz.f136.results.toList = some [RK.tmp z.i] := by kernel_rfl
noncomputable def C139 := mkC Tryz.prog Tryz.f139 35
theorem C139ok : CCok Tryz.prog Tryz.f139 35 C139 := mkC_ok _
@[go_sem] theorem call139 (a H) : callC Tryz.prog 139 a H = .call 139 a := callC_ok (by kernel_rfl) a H
theorem R139ok : resKs Tryz.prog Tryz.f139.results.toList = some [RK.tmp z.o.i] := by kernel_rfl
noncomputable def C66 := mkC Tryz.prog Tryz.f66 23
theorem C66ok : CCok Tryz.prog Tryz.f66 23 C66 := mkC_ok _
@[go_sem] theorem call66 (a H) : callC Tryz.prog 66 a H = .call 66 a := callC_ok (by kernel_rfl) a H
theorem R66ok : resKs Tryz.prog Tryz.f66.results.toList = some [RK.tmp z.o.i] := by kernel_rfl
noncomputable def C64 := mkC Tryz.prog Tryz.f64 19
theorem C64ok : CCok Tryz.prog Tryz.f64 19 C64 := mkC_ok _
@[go_sem] theorem call64 (a H) : callC Tryz.prog 64 a H = .call 64 a := callC_ok (by kernel_rfl) a H
theorem R64ok : resKs Tryz.prog Tryz.f64.results.toList = some [RK.tmp z.o.i] := by kernel_rfl
noncomputable def C25 := mkC Tryz.prog Tryz.f25 64
theorem C25ok : CCok Tryz.prog Tryz.f25 64 C25 := mkC_ok _
@[go_sem] theorem call25 (a H) : callC Tryz.prog 25 a H = .call 25 a := callC_ok (by kernel_rfl) a H
theorem R25ok : resKs Tryz.prog Tryz.f25.results.toList = some [RK.cell z.o.i true 4, RK.tmp z.i.o] := by kernel_rfl
noncomputable def C81 := mkC Tryz.prog Tryz.f81 17
theorem C81ok : CCok Tryz.prog Tryz.f81 17 C81 := mkC_ok _
@[go_sem] theorem call81 (a H) : callC Tryz.prog 81 a H = .call 81 a := callC_ok (by kernel_rfl) a H
theorem R81ok : resKs Tryz.prog Tryz.f81.results.toList = some [] := by kernel_rfl
end Go.Proofs
namespace Go.Proofs
open Go Go.Ev
variable {H : Heap}
section
variable {k : K} {wr : Bool}
theorem f12_ok {a b c d e f g h : AV} (hk : H.get k = some (.row wr 8 [[a, b, c, d, e, f, g, h]])) : FnOk Tryz.prog 12 [.ptr k 0] H fun r G => r = d ∧ G = H := by
 refine FnOk.assume fun hok => ?_
 have hk' := fun L => Heap.get_ext_old hok hk L
 refine FnOk.of_WW Tryz.func12 rfl C12ok R12ok E0 good_E0 ?_
 simp only [go_sem, C12, hk']
 rfl
theorem f46_ok {b : AV} {n : AV} (hk : H.get k = some (.row wr 2 [[b, n]])) : FnOk Tryz.prog 46 [.ptr k 0] H fun r G => r = n ∧ G = H := by
 refine FnOk.assume fun hok => ?_
 have hk' := fun L => Heap.get_ext_old hok hk L
 refine FnOk.of_WW Tryz.func46 rfl C46ok R46ok E0 good_E0 ?_
 simp only [go_sem, C46, hk']
 rfl
theorem f62_ok {b : AV} {n : AV} (hk : H.get k = some (.row wr 2 [[b, n]])) : FnOk Tryz.prog 62 [.ptr k 0] H fun r G => r = b ∧ G = H := by
 refine FnOk.assume fun hok => ?_
 have hk' := fun L => Heap.get_ext_old hok hk L
 refine FnOk.of_WW Tryz.func62 rfl C62ok R62ok E0 good_E0 ?_
 simp only [go_sem, C62, hk']
 rfl
theorem f67_ok {b n : AV} (hk : H.get k = some (.row true 2 [[b, n]])) : FnOk Tryz.prog 67 [.ptr k 0] H fun r G => r = .tup [] ∧ G = H.set k (.row true 2 [[b, .int .i64 0]]) := by
 refine FnOk.assume fun hok => ?_
 have hk' := fun L => Heap.get_ext_old hok hk L
 have hset := fun b (l : List Blk) (α : Type) (c' : Heap → α) => Heap.setC_here hok hk b l c'
 refine FnOk.of_WW Tryz.func67 rfl C67ok R67ok E0 good_E0 ?_
 simp only [go_sem, C67, hk', hset]
 rfl
theorem f15_ok {kd : K} {a c d e f g h b n : AV} (hk : H.get k = some (.row wr 8 [[a, .ptr kd 0, c, d, e, f, g, h]])) (hd : H.get kd = some (.row true 2 [[b, n]])) : FnOk Tryz.prog 15 [.ptr k 0] H fun r G => r = n ∧ G = H := by
 refine FnOk.assume fun hok => ?_
 have hk' := fun L => Heap.get_ext_old hok hk L
 refine FnOk.of_WW Tryz.func15 rfl C15ok R15ok E0 good_E0 ?_
 simp only [go_sem, C15, hk']
 refine CL.of (f46_ok (Heap.get_ext_old hok hd _)) ?_
 rintro _ G' ⟨rfl, hG⟩; rw [hG]; clear hG
 simp only [go_sem]
 rfl
theorem f26_ok {kd : K} {m b n : AV} (hk : H.get k = some (.row wr 2 [[.ptr kd 0, m]])) (hd : H.get kd = some (.row true 2 [[b, n]])) : FnOk Tryz.prog 26 [.ptr k 0] H fun r G => r = .tup [] ∧ G = H.set kd (.row true 2 [[b, .int .i64 0]]) := by
 refine FnOk.assume fun hok => ?_
 have hk' := fun L => Heap.get_ext_old hok hk L
 refine FnOk.of_WW Tryz.func26 rfl C26ok R26ok E0 good_E0 ?_
 simp only [go_sem, C26, hk']
 refine CL.of (f67_ok (Heap.get_ext_old hok hd _)) ?_
 rintro _ G' ⟨rfl, hG⟩; rw [hG]; clear hG
 rw [Heap.ext_nil]
 refine WW.nil ?_
 simp only [go_sem]
 rfl
theorem f14_ok {a b c d f g h : AV} {w : AV} {xs : List (List AV)} (hw : Arr H 24 w xs) (hk : H.get k = some (.row wr 8 [[a, b, c, d, w, f, g, h]])) : FnOk Tryz.prog 14 [.ptr k 0] H fun r G => r = .int .i64 xs.length ∧ G = H := by
 refine FnOk.assume fun hok => ?_
 have hk' := fun L => Heap.get_ext_old hok hk L
 have hl := hw.len
 refine FnOk.of_WW Tryz.func14 rfl C14ok R14ok E0 good_E0 ?_
 simp only [go_sem, C14, hk', hl]
 rfl
theorem f136_ok {n : Nat} (hn : n ≤ 200000) : FnOk Tryz.prog 136 [.int .i64 n] H fun r G => r = .nili ∧ G = H := by
 refine FnOk.of_WW Tryz.func136 rfl C136ok R136ok E0 good_E0 ?_
 have h1 : (n : Int) ≤ 200000 := by omega
 simp only [go_sem, C136, h1]
 rfl
theorem f139_ok {b s : List Nat} {n : Nat} (hk : H.get k = some (.row true 2 [[.str b, .int .i64 n]])) (hl : b.length + s.length ≤ 200000) (hn : n ≤ b.length) : FnOk Tryz.prog 139 [.ptr k 0, .str s] H fun r G => r = .nili ∧ G = H.set k (.row true 2 [[.str (b ++ s), .int .i64 ((n + s.length : Nat) : Int)]]) := by
 refine FnOk.assume fun hok => ?_
 have hk' := fun L => Heap.get_ext_old hok hk L
 have hset := fun b (l : List Blk) (α : Type) (c' : Heap → α) => Heap.setC_here hok hk b l c'
 have hget := fun b L => Heap.get_set_here hok hk b L
 have hset2 := fun b d (l : List Blk) (α : Type) (c' : Heap → α) => Heap.setC_set_here (α := α) hok hk b d l c'
 have hw : IntKind.i64.wrap ((b.length : Int) + (s.length : Int)) = ((b.length + s.length : Nat) : Int) := by rw [wrap_i64 (by omega) (by omega)]; omega
 have hw2 : IntKind.i64.wrap ((n : Int) + (s.length : Int)) = ((n + s.length : Nat) : Int) := by rw [wrap_i64 (by omega) (by omega)]; omega
 refine FnOk.of_WW Tryz.func139 rfl C139ok R139ok E0 good_E0 ?_
 simp only [go_sem, C139, hk', hset, hw]
 refine CL.of (f136_ok hl) ?_
 rintro _ G' ⟨rfl, hG⟩; rw [hG]; clear hG
 simp only [go_sem, hk', hset, hget, hset2, hw2]
 exact ⟨by omega, rfl⟩
end
end Go.Proofs
namespace Go.Proofs
open Go Go.Ev
variable {H : Heap}
open Classical in
noncomputable def ECq : FuncId → List AV → Heap → RC := fun f args H =>
 if h : f = 45 ∧ ∃ s : Sh, args = [.agg s.enc] ∧ s.ok H ∧ smallS s then .ok (.agg (h.2.choose.cop (H.key 0) (H.key 1) (H.key 2)).enc) (H.ext (copB h.2.choose)) else .fail
theorem good_ECq : Ev.Good Tryz.prog ECq := by
 intro f args H r G he φ w args' ha hw
 refine (?_ : FnOk Tryz.prog f args H fun v' G' => v' = r ∧ G' = G).one φ w args' ha hw
 unfold ECq at he
 split at he
 ·rename_i h
  obtain ⟨rfl, hs⟩ := id h
  obtain ⟨e1, e2, e3⟩ := h.2.choose_spec
  cases he
  generalize h.2.choose = t at e1 e2 e3
  rw [e1]
  exact f45_ok e2 e3
 ·cases he
theorem ecq {s : Sh} (h : s.ok H) (hsm : smallS s) : ECq 45 [.agg [.int .i64 s.id, .int .i64 s.ep, .str s.fr, .str s.to, .bool s.frz, s.cv, s.ev, s.dv]] H = .ok (.agg (s.cop (H.key 0) (H.key 1) (H.key 2)).enc) (H.ext (copB s)) := by
 have hx : 45 = 45 ∧ ∃ t : Sh, [AV.agg [.int .i64 s.id, .int .i64 s.ep, .str s.fr, .str s.to, .bool s.frz, s.cv, s.ev, s.dv]] = [.agg t.enc] ∧ t.ok H ∧ smallS t := ⟨rfl, s, rfl, h, hsm⟩
 unfold ECq
 rw [dif_pos hx]
 obtain ⟨e1, e2, e3⟩ := hx.2.choose_spec
 generalize hx.2.choose = t at e1 e2 e3
 obtain ⟨id, ep, fr, to, frz, cells, evs, done, cv, ev, dv⟩ := t
 simp only [Sh.enc, List.cons.injEq, AV.agg.injEq, AV.int.injEq, AV.str.injEq, AV.bool.injEq, true_and, and_true] at e1
 obtain ⟨rfl, rfl, rfl, rfl, rfl, rfl, rfl, rfl⟩ := e1
 have u1 := e2.c.uniq h.c (by decide)
 have u2 := e2.e.uniq h.e (by decide)
 have u3 := e2.d.uniq h.d (by decide)
 have l1 := congrArg List.length u1
 have l2 := congrArg List.length u2
 have l3 := congrArg List.length u3
 simp only [List.length_map] at l1 l2 l3 u1 u2 u3
 simp only [Sh.cop, Sh.enc, copB, u1, u2, u3, l1, l2, l3]
end Go.Proofs
namespace Go.Proofs
open Go Go.Ev
variable {H : Heap}
section
variable {G : Heap} {k : K}
theorem isHd.putN {lv gv : AV} {hs hs' : List Sh} {gs : List Gn} (h : isHd G k lv gv hs gs) {L : List Blk} {j : Nat} (hj : L[j]? = some (.row true 8 (hs'.map Sh.enc))) (cap : Nat) (ex : Bool)
  (ho : ∀ s ∈ hs', s.ok ((G.set k (.row true 2 [[.slice (G.key j) 0 hs'.length 8 ex cap, gv]])).ext L)) (hsm : ∀ s ∈ hs', smallS s) (hl : hs'.length ≤ 8) :
  isHd ((G.set k (.row true 2 [[.slice (G.key j) 0 hs'.length 8 ex cap, gv]])).ext L) k (.slice (G.key j) 0 hs'.length 8 ex cap) gv hs' gs := by
 have hok := Heap.ok_ext (Heap.ok_set h.ok h.row (b := .row true 2 [[.slice (G.key j) 0 hs'.length 8 ex cap, gv]])) L
 have hjl := (List.getElem?_eq_some_iff.1 hj).1
 have hg : ((G.set k (.row true 2 [[.slice (G.key j) 0 hs'.length 8 ex cap, gv]])).ext L).get (G.key j) = some (.row true 8 (hs'.map Sh.enc)) := by rw [Heap.get_key_set hjl, hj]
 refine ⟨hok, Heap.get_set_here h.ok h.row _ L, .inr ⟨G.key j, 0, ex, cap, by rw [List.length_map], hok _ _ hg, fun _ => ⟨0, true, _, rfl, hg, ?_⟩⟩, (gone_set h _).ext L, ho, hsm, hl, h.few.2⟩
 rw [List.drop_zero, List.take_length]
theorem f109_one (h : isHd G k .nils .nils [] []) {v : AV} {s : Sh} (hA : Arr G 8 v [s.enc]) (ho : s.ok G) (hs : isSh s) (hsm : smallS s) :
  FnOk Tryz.prog 109 [.ptr k 0, .agg [.int .i64 1, .int .i64 0, .int .i64 0, .int .i64 0, .int .i64 0, .int .i64 0, .int .i64 0, .str [], .str [], .str [], .int .i64 0, .nils, .str [], .str [], v, .nils]] G fun r G' => r = .nili ∧ (∃ lv', ∃ cv ev dv : K, isHd G' k lv' .nils [s.cop cv ev dv] []) ∧ Nx k G G' := by
 refine FnOk.of_WW Tryz.func109 rfl C109ok R109ok ECq good_ECq ?_
 have hk : ∀ L, (G.ext L).get k = _ := fun L => Heap.get_ext_old h.ok h.row L
 have hset := fun b (l : List Blk) (α : Type) (c' : Heap → α) => Heap.setC_here h.ok h.row b l c'
 have hset2 := fun b d (l : List Blk) (α : Type) (c' : Heap → α) => Heap.setC_set_here h.ok h.row b d l c'
 have hk2 := fun b (l : List Blk) => Heap.get_set_here h.ok h.row b l
 have hlen := fun G => hA.len G
 simp only [go_sem, C109]
 refine CL.of (f168_one (ho.ext _) hs (hA.ext _)) ?_
 rintro _ G' ⟨rfl, hG⟩; rw [hG]; clear hG
 simp only [go_sem]
 refine CL.of (clone_nil clo42) ?_
 rintro _ G' ⟨rfl, hG⟩; rw [hG]; clear hG
 simp only [go_sem, hk, hset, hset2, hk2, hlen]
 obtain ⟨kk, r, ex', cap', wr, rows, hv, hrho, hgo, hrow⟩ := hA.at h.ok (j := 0) (Nat.zero_lt_succ _)
 have hg0 := hgo []
 rw [Heap.ext_nil] at hg0
 have hrow : rows[r]? = some [.int .i64 s.id, .int .i64 s.ep, .str s.fr, .str s.to, .bool s.frz, s.cv, s.ev, s.dv] := hrow
 have hne : k ≠ kk := by
  rintro rfl
  have := h.row
  rw [hg0] at this
  cases this
 have hw01 : IntKind.i64.wrap (0 + 1) = 1 := rfl
 have hv : v = .slice kk (r * 8) 1 8 ex' cap' := hv
 refine LL.sth good_ECq (fun i : Nat => 1 - i) (fun i M => (i = 0 ∧ isHd M k .nils .nils [] [] ∧ Nx k G M) ∨ (i = 1 ∧ (∃ lv', ∃ cv ev dv : K, isHd M k lv' .nils [s.cop cv ev dv] []) ∧ Nx k G M))
  (fun i => [(.z, .ptr k 0), ((.o (.i (.i (.o .z)))), v), ((.i (.i (.i (.o .z)))), .int .i64 1), ((.o (.o (.o (.i .z)))), .int .i64 i)]) ?_ 0 (.inl ⟨rfl, h.reset.ext _, Nx.set h.ok h.row _ _⟩) (Slots.all (by simp only [go_sem]; first | done | rfl | trace_state))
 rintro i M (⟨rfl, hM, hnx⟩ | ⟨rfl, ⟨lv', cv, ev, dv, hM⟩, hnx⟩)
 ·have hkM : ∀ L, (M.ext L).get k = _ := fun L => Heap.get_ext_old hM.ok hM.row L
  have hgM : ∀ L, (M.ext L).get kk = _ := fun L => Heap.get_ext_old hM.ok (hnx.keep kk _ hne hg0) L
  have hsetM := fun b (l : List Blk) (α : Type) (c' : Heap → α) => Heap.setC_here hM.ok hM.row b l c'
  have hoM : s.ok M := hnx.sh h.row ho hsm
  have ec := fun L => ecq (hoM.ext L) hsm
  simp only [go_sem, hv, hkM, hgM, hrow, ec, hsetM, hw01, Sh.cop, Sh.enc, copB, Heap.key_ext]
  refine ⟨1, by show 1 - 1 < 1 - 0; decide, .inr ⟨rfl, ⟨_, _, _, _, isHd.putN hM (hs' := [s.cop (M.key 1) (M.key 2) (M.key 3)]) (j := 5) rfl 1 false (fun x hx => ?_) (fun x hx => ?_) (by show 1 ≤ 8; decide)⟩, hnx.trans (Nx.set hM.ok hM.row _ _)⟩, Slots.all (by simp only [go_sem, hv]; first | done | rfl | trace_state)⟩
  ·rw [List.mem_singleton.1 hx]
   exact Sh.cop_ok (H := M.set k _) (ok_set' hM hoM hsm _) (i := 1) (j := 2) (m := 3) rfl rfl rfl
  ·rw [List.mem_singleton.1 hx]
   exact ⟨hsm.b, hsm.c, hsm.e, hsm.d⟩
 ·have hkM : ∀ L, (M.ext L).get k = _ := fun L => Heap.get_ext_old hM.ok hM.row L
  simp only [go_sem, hv, hkM]
  refine CL.of (f170_ok (hM.ext _) (Nat.le_refl 1)) ?_
  rintro _ G' ⟨rfl, hG⟩; rw [hG]; clear hG
  simp only [go_sem, hkM]
  refine CL.of (f171_ok (gs := []) (.inl ⟨rfl, rfl⟩) (Nat.zero_le _) 172) ?_
  rintro _ G' ⟨rfl, hG⟩; rw [hG]; clear hG
  simp only [go_sem]
  exact ⟨⟨_, _, _, _, hM.ext _⟩, hnx.trans (Nx.ext hM.ok _)⟩
end
end Go.Proofs
namespace Go.Ev
variable {P : Program} {H : Heap} {T : Tr AV} {E : FuncId → List AV → Heap → RC} {N : Nat} {H0 : Heap} {k : List It} {Q : Ex → Tr AV → Heap → Prop}
theorem WW.code_mono {x : CC} {Q R : Ex → Tr AV → Heap → Prop} (h : WW P E N H0 [.code x] T H Q) (hq : ∀ e T H, Q e T H → R e T H) : WW P E N H0 [.code x] T H R := wpc_mono x T H _ _ (fun e T H q => hq e T H q) h
noncomputable def UN (P : Program) (E : FuncId → List AV → Heap → RC) (N : Nat) (H0 : Heap) (x : CC) (k : List It) (Q : Ex → Tr AV → Heap → Prop) : Nat → Tr AV → Heap → Prop
 | 0, T, H => WW P E N H0 [.code x] T H (behind (fun _ _ => False) (postW P E N H0 k Q))
 | n + 1, T, H => WW P E N H0 [.code x] T H (behind (UN P E N H0 x k Q n) (postW P E N H0 k Q))
theorem LL.un {x : CC} (hE : Good P E) (n : Nat) (h : UN P E N H0 x k Q n T H) : LL P E N H0 x k T H Q := by
 refine LL.of hE (fun m T H => UN P E N H0 x k Q m T H) (fun m T H hm => ?_) (m := n) h
 cases m with
 | zero =>
  refine WW.code_mono hm fun e T H q => ?_
  cases e with
  | norm => exact q.elim
  | exit n => exact q
  | ret => exact q
 | succ m =>
  refine WW.code_mono hm fun e T H q => ?_
  cases e with
  | norm => exact ⟨m, Nat.lt_succ_self m, q⟩
  | exit n => exact q
  | ret => exact q
@[go_sem] theorem UN_0 (x : CC) : UN P E N H0 x k Q 0 T H = WW P E N H0 [.code x] T H (behind (fun _ _ => False) (postW P E N H0 k Q)) := nrf rfl
@[go_sem] theorem UN_1 (x : CC) : UN P E N H0 x k Q 1 T H = WW P E N H0 [.code x] T H (behind (UN P E N H0 x k Q 0) (postW P E N H0 k Q)) := nrf rfl
@[go_sem] theorem UN_2 (x : CC) : UN P E N H0 x k Q 2 T H = WW P E N H0 [.code x] T H (behind (UN P E N H0 x k Q 1) (postW P E N H0 k Q)) := nrf rfl
@[go_sem] theorem UN_3 (x : CC) : UN P E N H0 x k Q 3 T H = WW P E N H0 [.code x] T H (behind (UN P E N H0 x k Q 2) (postW P E N H0 k Q)) := nrf rfl
@[congr] theorem UN_congr {x : CC} {n : Nat} {U : Tr AV} {G : Heap} (h : T = U) (h2 : H = G) : UN P E N H0 x k Q n T H = UN P E N H0 x k Q n U G := by rw [h, h2]
theorem withE_eq (E : FuncId → List AV → Heap → RC) (f : FuncId) (args : List AV) (H : Heap) (v : AV) (G : Heap) : withE E f args H v G f args H = .ok v G := by
 unfold withE
 rw [if_pos ⟨rfl, rfl, rfl⟩]
theorem withE_ne {E : FuncId → List AV → Heap → RC} {f g : FuncId} (h : g ≠ f) (args a : List AV) (H J : Heap) (v : AV) (G : Heap) : withE E f args H v G g a J = E g a J := by
 unfold withE
 rw [if_neg fun e => h e.1]
theorem one_call {f : FuncId} {a : List AV} {v : AV} {G : Heap} (h : FnOk P f a H fun r J => r = v ∧ J = G) : ∃ E : FuncId → List AV → Heap → RC, Good P E ∧ E f a H = .ok v G := ⟨withE E0 f a H v G, good_withE good_E0 h, withE_eq ..⟩
theorem two_calls {f g : FuncId} (hne : g ≠ f) {a b : List AV} {v u : AV} {H2 G G2 : Heap} (h : FnOk P f a H fun r J => r = v ∧ J = G) (h2 : FnOk P g b H2 fun r J => r = u ∧ J = G2) :
  ∃ E : FuncId → List AV → Heap → RC, Good P E ∧ E f a H = .ok v G ∧ E g b H2 = .ok u G2 := ⟨withE (withE E0 f a H v G) g b H2 u G2, good_withE (good_withE good_E0 h) h2, by rw [withE_ne (Ne.symm hne), withE_eq], withE_eq ..⟩
end Go.Ev
namespace Go.Proofs
open Go Go.Ev
variable {H : Heap}
section
variable {G : Heap} {k : K}
theorem f44_base1 (h : isHd G k .nils .nils [] []) {v : AV} {s : Sh} (hA : Arr G 8 v [s.enc]) (ho : s.ok G) (hs : isSh s) (hsm : smallS s) :
  FnOk Tryz.prog 44 [.ptr k 0, .agg [.int .i64 1, .int .i64 0, .int .i64 0, .int .i64 0, .int .i64 0, .int .i64 0, .int .i64 0, .str [], .str [], .str [], .int .i64 0, .nils, .str [], .str [], v, .nils]] G fun r G' => r = .tup [.agg zA, .nili] ∧ (∃ lv', ∃ cv ev dv : K, isHd G' k lv' .nils [s.cop cv ev dv] []) ∧ Nx k G G' := by
 refine FnOk.of_WW Tryz.func44 rfl C44ok R44ok E0 good_E0 ?_
 have hk : ∀ L, (G.ext L).get k = _ := fun L => Heap.get_ext_old h.ok h.row L
 simp only [go_sem, C44, hk]
 refine CL.of (f109_one (h.ext _) (hA.ext _) (ho.ext _) hs hsm) ?_
 rintro _ G' ⟨rfl, ⟨lv', cv, ev, dv, hhd⟩, hnx⟩
 have e1 := hnx.keep (G.key 1) _ (ne_key h.ok h.row 1) (get_lit rfl)
 have e3 := hnx.keep (G.key 3) _ (ne_key h.ok h.row 3) (get_lit rfl)
 have g1 := fun L => Heap.get_ext_old hhd.ok e1 L
 have g3 := fun L => Heap.get_ext_old hhd.ok e3 L
 have s1 := fun b (l : List Blk) (α : Type) (c' : Heap → α) => Heap.setC_here hhd.ok e1 b l c'
 have k1 := fun b (l : List Blk) => Heap.get_set_here hhd.ok e1 b l
 refine WW.nil ?_
 simp only [go_sem]
 refine CL.of (f113_none _) ?_
 rintro _ G' ⟨rfl, hG⟩; rw [hG]; clear hG
 simp only [go_sem]
 refine CL.of (f65_ok none 10) ?_
 rintro _ G' ⟨rfl, hG⟩; rw [hG]; clear hG
 simp only [go_sem, g1, g3, s1, k1]
 exact ⟨rfl, ⟨lv', cv, ev, dv, (hhd.cell e1 _).ext _⟩, ((Nx.ext h.ok _).trans hnx).cell h.ok hhd.ok e1 _ _⟩
noncomputable def shL (G : Heap) (s : Sh) : List Blk := [.row true 8 [s.enc], zB (nilB s.cv) 5 (s.cells.map Cell.enc), zB (nilB s.ev) 4 (s.evs.map Evn.enc), zB (nilB s.dv) 6 (s.done.map Dn.enc), .row true 8 [(s.cop (G.key 1) (G.key 2) (G.key 3)).enc], .row true 8 [(s.cop (G.key 1) (G.key 2) (G.key 3)).enc]]
theorem f13_one {lv gv : AV} {gs : List Gn} {s : Sh} (h : isHd G k lv gv [s] gs) :
  FnOk Tryz.prog 13 [.ptr k 0] G fun r G' => r = .slice (G.key 5) 0 1 8 false 1 ∧ G' = G.ext (shL G s) := by
 refine FnOk.of_WW Tryz.func13 rfl C13ok R13ok ECq good_ECq ?_
 have hk : ∀ L, (G.ext L).get k = _ := fun L => Heap.get_ext_old h.ok h.row L
 have hA := h.l
 have hlen := fun G => hA.len G
 have ho := h.each s (List.mem_singleton_self _)
 have hsm := h.small s (List.mem_singleton_self _)
 obtain ⟨kk, r, ex', cap', wr, rows, hv, hrho, hgo, hrow⟩ := hA.at h.ok (j := 0) (Nat.zero_lt_succ _)
 have hrow : rows[r]? = some [.int .i64 s.id, .int .i64 s.ep, .str s.fr, .str s.to, .bool s.frz, s.cv, s.ev, s.dv] := hrow
 have hv : lv = .slice kk (r * 8) 1 8 ex' cap' := hv
 simp only [go_sem, C13, hk, hlen]
 have hw01 : IntKind.i64.wrap (0 + 1) = 1 := rfl
 have ec := fun L => ecq (ho.ext L) hsm
 refine LL.un good_ECq 1 ?_
 simp only [go_sem, hv, hk, hgo, hrow, ec, hw01]
 refine CL.of (f45_ok (ho.ext _) hsm) ?_
 rintro _ G' ⟨rfl, hG⟩; rw [hG]; clear hG
 simp only [go_sem, hv, hk, hgo, hrow, hw01, Sh.cop, Sh.enc, copB, Heap.key_ext]
 rfl
theorem Sh.alike {s t : Sh} (hs : s.ok H) (ht : t.ok H) (h : s.enc = t.enc) : shL H s = shL H t := by
 obtain ⟨id, ep, fr, to, frz, cells, evs, done, cv, ev, dv⟩ := t
 simp only [Sh.enc, List.cons.injEq, AV.int.injEq, AV.str.injEq, AV.bool.injEq, true_and, and_true] at h
 obtain ⟨h1, h2, h3, h4, h5, h6, h7, h8⟩ := h
 have u1 := hs.c.uniq (by rw [h6]; exact ht.c) (by decide)
 have u2 := hs.e.uniq (by rw [h7]; exact ht.e) (by decide)
 have u3 := hs.d.uniq (by rw [h8]; exact ht.d) (by decide)
 have l1 := congrArg List.length u1
 have l2 := congrArg List.length u2
 have l3 := congrArg List.length u3
 simp only [List.length_map] at l1 l2 l3
 simp only [shL, Sh.cop, Sh.enc, h1, h2, h3, h4, h5, h6, h7, h8, u1, u2, u3, l1, l2, l3]
theorem isHd.alike {lv gv lv' gv' : AV} {gs gs' : List Gn} {s t : Sh} (h : isHd H k lv gv [s] gs) (g : isHd H k lv' gv' [t] gs') : shL H s = shL H t := by
 have e := h.row
 rw [g.row] at e
 simp only [Option.some.injEq, Blk.row.injEq, List.cons.injEq, and_true, true_and] at e
 obtain ⟨rfl, rfl⟩ := e
 have u := h.l.uniq g.l (by decide)
 simp only [List.map_cons, List.map_nil, List.cons.injEq, and_true] at u
 exact Sh.alike (h.each s (List.mem_singleton_self _)) (g.each t (List.mem_singleton_self _)) u
open Classical in
noncomputable def EBs : FuncId → List AV → Heap → RC := fun f args H =>
 if h : f = 13 ∧ ∃ (k : K) (s : Sh) (lv gv : AV) (gs : List Gn), args = [.ptr k 0] ∧ isHd H k lv gv [s] gs then .ok (.slice (H.key 5) 0 1 8 false 1) (H.ext (shL H h.2.choose_spec.choose))
 else if f = 126 ∧ args = [.nils] then .ok .nils H else .fail
theorem good_EBs : Ev.Good Tryz.prog EBs := by
 intro f args H r G he φ w args' ha hw
 refine (?_ : FnOk Tryz.prog f args H fun v' G' => v' = r ∧ G' = G).one φ w args' ha hw
 unfold EBs at he
 split at he
 ·rename_i h
  obtain ⟨rfl, _⟩ := id h
  obtain ⟨lv, gv, gs, e1, e2⟩ := h.2.choose_spec.choose_spec
  cases he
  generalize h.2.choose_spec.choose = s at e1 e2
  generalize h.2.choose = k at e1 e2
  rw [e1]
  exact f13_one e2
 ·split at he
  ·rename_i h
   obtain ⟨rfl, rfl⟩ := h
   cases he
   exact clone_nil clo42
  ·cases he
theorem eb21 {lv gv : AV} {gs : List Gn} {s : Sh} (h : isHd H k lv gv [s] gs) : EBs 13 [.ptr k 0] H = .ok (.slice (H.key 5) 0 1 8 false 1) (H.ext (shL H s)) := by
 have hx : 13 = 13 ∧ ∃ (k' : K) (s : Sh) (lv gv : AV) (gs : List Gn), [AV.ptr k 0] = [.ptr k' 0] ∧ isHd H k' lv gv [s] gs := ⟨rfl, k, s, lv, gv, gs, rfl, h⟩
 unfold EBs
 rw [dif_pos hx]
 obtain ⟨lv', gv', gs', e1, e2⟩ := hx.2.choose_spec.choose_spec
 generalize hx.2.choose_spec.choose = t at e2 ⊢
 generalize hx.2.choose = k' at e1 e2
 simp only [List.cons.injEq, AV.ptr.injEq, and_true] at e1
 subst e1
 rw [h.alike e2]
theorem eb116 (H : Heap) : EBs 126 [.nils] H = .ok .nils H := by
 unfold EBs
 rw [dif_neg (by rintro ⟨h, _⟩; cases h), if_pos ⟨rfl, rfl⟩]
def baseL (v w : AV) : List AV := [.int .i64 1, .int .i64 0, .int .i64 0, .int .i64 0, .int .i64 0, .int .i64 0, .int .i64 0, .str [], .str [], .str [], .int .i64 0, .nils, .str [], .str [], v, w]
theorem f55_one {lv : AV} {s : Sh} (h : isHd G k lv .nils [s] []) :
  FnOk Tryz.prog 55 [.ptr k 0] G fun r G' => ∃ (c cv ev dv : K) (L : List Blk), r = .agg (baseL (.slice c 0 1 8 false 1) .nils) ∧ G' = G.ext L ∧ Arr G' 8 (.slice c 0 1 8 false 1) [(s.cop cv ev dv).enc] ∧ (s.cop cv ev dv).ok G' := by
 refine FnOk.of_WW Tryz.func55 rfl C55ok R55ok EBs good_EBs ?_
 have hk : ∀ L, (G.ext L).get k = _ := fun L => Heap.get_ext_old h.ok h.row L
 have ec := fun L => eb21 (h.ext L)
 have ho := h.each s (List.mem_singleton_self _)
 simp only [go_sem, C55, hk, ec, eb116, shL, Heap.key_ext]
 refine ⟨_, _, _, _, _, rfl, rfl, arr_row (i := 6) rfl rfl, Sh.cop_ok ho (i := 2) (j := 3) (m := 4) rfl rfl rfl⟩
end
end Go.Proofs
namespace Go.Proofs
open Go Go.Ev
variable {H : Heap}
section
variable {k kd : K} {wr : Bool}
theorem f66_ok {b s : List Nat} {n m : Nat} (hk : H.get k = some (.row true 2 [[.ptr kd 0, .int .i64 m]])) (hd : H.get kd = some (.row true 2 [[.str b, .int .i64 n]])) (hl : b.length + (wrapT s).length ≤ 200000) (hn : n ≤ b.length) (hm : m < 1000000) (hs : s.length < 1000000) :
  FnOk Tryz.prog 66 [.ptr k 0, .str s] H fun r G => r = .nili ∧ G = (H.set kd (.row true 2 [[.str (b ++ wrapT s), .int .i64 ((n + (wrapT s).length : Nat) : Int)]])).set k (.row true 2 [[.ptr kd 0, .int .i64 ((m + 1 : Nat) : Int)]]) := by
 refine FnOk.assume fun hok => ?_
 have hne : kd ≠ k := by
  rintro rfl
  rw [hk] at hd
  cases hd
 have hk' := fun L => Heap.get_ext_old hok hk L
 have hd' := fun b L => Heap.get_set_here hok hd b L
 have hkk := fun b L => Heap.get_set_there hok hk hne b L
 have hset := fun (b c : Blk) (l : List Blk) (α : Type) (c' : Heap → α) => Heap.setC_here (α := α) (Heap.ok_set hok hd (b := b)) (by have := hkk b []; rwa [Heap.ext_nil] at this) c l c'
 have hw : IntKind.i64.wrap ((m : Int) + 1) = ((m + 1 : Nat) : Int) := by rw [wrap_i64 (by omega) (by omega)]; omega
 obtain ⟨E1, hE1, e1, e2⟩ := two_calls (P := Tryz.prog) (f := 120) (g := 139) (by decide) (H := H) (H2 := H) (f120_ok hs) (f139_ok hd hl hn)
 have e1 : E1 120 [.str s] (H.ext []) = .ok (.str (wrapT s)) (H.ext []) := e1
 have e2 : E1 139 [.ptr kd 0, .str (wrapT s)] (H.ext []) = .ok .nili ((H.set kd (.row true 2 [[.str (b ++ wrapT s), .int .i64 ((n + (wrapT s).length : Nat) : Int)]])).ext []) := e2
 refine FnOk.of_WW Tryz.func66 rfl C66ok R66ok E1 hE1 ?_
 simp only [go_sem, C66, hk', e1, e2, hkk, hset, hw]
 rfl
end
end Go.Proofs
namespace Go.Proofs
open Go Go.Ev
variable {H : Heap}
section
variable {G : Heap} {k : K} {lv gv : AV} {gs : List Gn} {e : Int} {i : Nat} {s : Sh}
theorem f174_sameE {o s : Sh} (h : isHd G k lv gv [o] gs) (hid : o.id = s.id) (hs : s.ok G) (hsm : smallS s) : ∃ X, FnOk Tryz.prog 174 [.ptr k 0, .agg s.enc] G (fun r G' => r = .tup [] ∧ G' = X) ∧ (∃ lv', isHd X k lv' gv [s] gs) ∧ Nx k G X := by
 have hput := fun L (hj : L[1]? = some (.row true 8 ([s].map Sh.enc))) => isHd.put (hs' := [s]) h (L := L) (j := 1) hj (fun x hx => by rw [List.mem_singleton.1 hx]; exact hs) (fun x hx => by rw [List.mem_singleton.1 hx]; exact hsm) (by show 1 ≤ 8; decide) 1 false
 refine ⟨?X, ?a, ?b⟩
 case a =>
  refine FnOk.of_WW Tryz.func174 rfl C174ok R174ok E0 good_E0 ?_
  have hk : ∀ L, (G.ext L).get k = _ := fun L => Heap.get_ext_old h.ok h.row L
  have hset := fun b (l : List Blk) (α : Type) (c' : Heap → α) => Heap.setC_here h.ok h.row b l c'
  have hset2 := fun b d (l : List Blk) (α : Type) (c' : Heap → α) => Heap.setC_set_here h.ok h.row b d l c'
  have hk2 := fun b (l : List Blk) => Heap.get_set_here h.ok h.row b l
  simp only [go_sem, C174, hk, Sh.enc]
  refine CL.of (clone_zd clo97 (h.l.ext _) (by show (2 * 1 + 192) * 128 ≤ 281474976710656; decide) (fun top σ => shs_rens (fun s hs => (h.each s hs).ext _) top σ)) ?_
  rintro _ _ ⟨rfl, rfl⟩
  simp only [go_sem, zV_pos (show 0 < 0 + 1 from Nat.zero_lt_succ 0), zB_pos (show 0 < [o.enc].length from Nat.zero_lt_succ 0)]
  refine CL.of (f220_only (q := fun o => decide (o.id = s.id)) (Heap.ok_ext h.ok _) (get_lit rfl) (fun _ _ => call222 ..) (fun top σ => by exact cap_lit (Nat.zero_lt_succ _) 222 top σ) (fun L => by exact f222_ok (s := s) (get_lit2 rfl) o) (decide_eq_true hid)) ?_
  rintro _ G' ⟨rfl, hG⟩
  rw [hG, Heap.set_ext_key _ _ _ _ (by exact Nat.lt_succ_self 1)]
  clear hG
  simp only [go_sem, hk, hset, hset2, hk2]
  refine CL.of (f170_ok (hput _ (by rfl)) (Nat.le_refl 1)) ?_
  rintro _ G' ⟨rfl, hG⟩; rw [hG]; clear hG
  simp only [go_sem]
  exact rfl
 case b => exact ⟨⟨_, hput _ rfl⟩, Nx.set h.ok h.row _ _⟩
end
end Go.Proofs
namespace Go.Proofs
open Go Go.Ev
variable {H : Heap}
section
variable {G : Heap} {kn kd kj kh : K}
structure Kp (ks : List K) (G G' : Heap) : Prop where
 keep : ∀ j b, j ∉ ks → G.get j = some b → G'.get j = some b
 le : G.nx.toNat ≤ G'.nx.toNat
theorem isHd.other {G : Heap} {k : K} {lv gv : AV} {hs : List Sh} {gs : List Gn} {k2 : K} {G' : Heap} {lv2 gv2 : AV} {hs2 : List Sh} {gs2 : List Gn} (h : isHd G k lv gv hs gs) (h2 : isHd G k2 lv2 gv2 hs2 gs2) (hne : k2 ≠ k) (hok' : G'.ok) (hn : Nx k G G') : isHd G' k2 lv2 gv2 hs2 gs2 := by
 refine ⟨hok', hn.keep _ _ (Ne.symm hne) h2.row, hn.arr h.row (by decide) h2.l, ?_, fun s hs => hn.sh h.row (h2.each s hs) (h2.small s hs), h2.small, h2.few⟩
 rcases h2.g with ⟨e1, e2⟩ | ⟨j, off, ex, cap, rfl, hj, hx⟩
 ·exact .inl ⟨e1, e2⟩
 ·refine .inr ⟨j, off, ex, cap, rfl, Nat.lt_of_lt_of_le hj hn.le, fun hxs => ?_⟩
  obtain ⟨r, wr, rows, e1, e2, e3⟩ := hx hxs
  refine ⟨r, wr, rows, e1, hn.keep j _ (fun e => ?_) e2, e3⟩
  subst e
  rw [h.row] at e2
  cases e2
  have hl := h.l
  cases gs2 with
  | nil => exact hxs rfl
  | cons c l =>
   cases r with
   | zero =>
    have h6 := congrArg (fun z => z[0]?) e3
    simp only [List.map_cons, List.length_cons, List.drop_zero, List.take_succ_cons, List.getElem?_cons_zero, Gn.enc] at h6
    have h7 := Option.some.inj h6
    injection h7 with h7 _
    subst h7
    rcases hl with ⟨e, _⟩ | ⟨_, _, _, _, e, _⟩ <;> cases e
   | succ r => simp at e3
theorem Nx.kp {G G' : Heap} {i : Nat} {L : List Blk} (hok : G.ok) (h : Nx (G.key i) (G.ext L) G') : Kp [] G G' :=
 ⟨fun j b _ hb => h.keep j b (fun e => ne_key hok hb i e.symm) (Heap.get_ext_old hok hb L), Nat.le_trans (by rw [Heap.nx_ext, Heap.toNat_key]; exact Nat.le_add_right _ _) h.le⟩
theorem Kp.nx {G A B : Heap} {i : Nat} {L : List Blk} (h : Kp [] G A) (hok : G.ok) (hA : A.ok) (h2 : Nx (G.key i) (A.ext L) B) : Kp [] G B :=
 ⟨fun j b _ hb => h2.keep j b (fun e => ne_key hok hb i e.symm) (Heap.get_ext_old hA (h.keep j b List.not_mem_nil hb) L), Nat.le_trans h.le (Nat.le_trans (by rw [Heap.nx_ext, Heap.toNat_key]; exact Nat.le_add_right _ _) h2.le)⟩
theorem isHd.set2 {G : Heap} {k : K} {lv gv : AV} {hs : List Sh} {gs : List Gn} (h : isHd G k lv gv hs gs) {j : K} {wr : Bool} {x y : AV} (hj : G.get j = some (.row wr 2 [[x, y]])) (hx : ∀ n, x ≠ .int .i64 n) (hne : j ≠ k) (b : Blk) : isHd (G.set j b) k lv gv hs gs := by
 refine ⟨Heap.ok_set h.ok hj, ?_, h.l.set hj (by decide), ?_, fun s hs => ?_, h.small, h.few⟩
 ·rw [Heap.get_set, if_neg hne]; exact h.row
 ·rcases h.g with g | ⟨i, off, ex, cap, hv, hi, g⟩
  ·exact .inl g
  ·refine .inr ⟨i, off, ex, cap, hv, hi, fun hxs => ?_⟩
   obtain ⟨r, wr', rows', h1, h2, h3⟩ := g hxs
   refine ⟨r, wr', rows', h1, ?_, h3⟩
   rw [Heap.get_set, if_neg fun e => ?_]
   ·exact h2
   ·subst e
    rw [hj] at h2
    cases h2
    cases gs with
    | nil => exact hxs rfl
    | cons c l =>
     cases r with
     | zero =>
      have h6 := congrArg (fun z => z[0]?) h3
      simp only [List.map_cons, List.length_cons, List.drop_zero, List.take_succ_cons, List.getElem?_cons_zero, Gn.enc] at h6
      have h7 := Option.some.inj h6
      injection h7 with h7 _
      exact hx _ h7
     | succ r => simp at h3
 ·have hs' := h.each s hs
  exact ⟨hs'.c.set hj (by decide), hs'.e.set hj (by decide), hs'.d.set hj (by decide), bareL.ok (h.small s hs).b _, hs'.cl, hs'.el, hs'.dl⟩
end
end Go.Proofs
