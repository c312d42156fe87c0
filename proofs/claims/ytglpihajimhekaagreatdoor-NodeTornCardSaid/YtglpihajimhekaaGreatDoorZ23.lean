/- part. -/
import Derived.Test.YtglpihajimhekaaGreatDoorZ22
import Derived.KernelRfl
set_option linter.all false
set_option maxRecDepth 100000
namespace Go.Proofs
open Go Go.Ev
variable {H : Heap}
noncomputable def ED (f : FuncId) (args : List AV) (H : Heap) : RC :=
 match f with
 | 162 => ot (A86 H args) fun q => .ok (outV H.nx 5 (refW q.1 q.2).length) (H.ext [outB 5 ((refW q.1 q.2).map Cell.enc)])
 | 206 => ot (A149 H args) fun q => .ok (.tup [outV (H.key 1) 4 ((q.2.1 ++ [q.2.2.2]).drop ((q.2.1 ++ [q.2.2.2]).length - 24)).length, seV (decide (0 < (q.2.1 ++ [q.2.2.2]).length - 24)) q.1 (H.key 0) 5 q.2.2.1.length]) (H.ext [seB (decide (0 < (q.2.1 ++ [q.2.2.2]).length - 24)) 5 ((keepC ((q.2.1 ++ [q.2.2.2]).take ((q.2.1 ++ [q.2.2.2]).length - 24)) q.2.2.1).map Cell.enc), outB 4 (((q.2.1 ++ [q.2.2.2]).drop ((q.2.1 ++ [q.2.2.2]).length - 24)).map Evn.enc)])
 | _ => .fail
theorem good_ED : Ev.Good Tryz.prog ED := by
 intro f args H r G he φ w args' ha hw
 refine (?_ : FnOk Tryz.prog f args H fun v' G' => v' = r ∧ G' = G).one φ w args' ha hw
 unfold ED at he
 split at he
 ·obtain ⟨q, ⟨v, rfl, h1, h2, h3⟩, hz⟩ := ot_ok he
  clear he
  cases hz
  exact f162_at h1 (by omega) h3
 ·obtain ⟨q, ⟨v, rfl, h1, h2, h3, h4, h5⟩, hz⟩ := ot_ok he
  clear he
  cases hz
  exact f206_ok h1 h2 h3 h4 h5
 ·cases he
theorem e86 {v : AV} {l : List Cell} (hA : Arr H 5 v (l.map Cell.enc)) (hl : l.length < 10000) {c : Cell} (hc : cellIs c) (L : List Blk) :
  ED 162 [v, .agg [.str c.key, .str c.value, .int .i64 c.ver, .bool c.del, .int .i64 c.floor]] (H.ext L) = .ok (outV (H.key L.length) 5 (refW l c).length) (H.ext (L ++ [outB 5 ((refW l c).map Cell.enc)])) := by
 show ot (A86 (H.ext L) [v, .agg c.enc]) (fun q => .ok (outV (H.ext L).nx 5 (refW q.1 q.2).length) ((H.ext L).ext [outB 5 ((refW q.1 q.2).map Cell.enc)])) = _
 rw [ot_eq (p := A86 (H.ext L) [v, .agg c.enc]) (x := (l, c)) ⟨v, rfl, hA.ext L, hl, hc⟩, Heap.nx_ext, Heap.ext_append]
 rintro ⟨l', c'⟩ ⟨v', h1, h2, _⟩
 injection h1 with h1 h3
 injection h3 with h3 _
 injection h3 with h3
 dsimp only at h1 h2 h3
 subst h1
 rw [cells_uniq (hA.ext L) h2, Cell.enc_one h3]
theorem e149 {v u : AV} {l : List Evn} {cs : List Cell} {L : List Blk} (hA : Arr (H.ext L) 4 v (l.map Evn.enc)) (hB : Arr (H.ext L) 5 u (cs.map Cell.enc)) (hl : l.length < 10000) (hc : cs.length < 10000) {e : Evn} (hI : isHist (l ++ [e]) cs) :
  ED 206 [v, u, .agg [.str e.key, .int .i64 e.ver, .str e.val, .bool e.del], .int .i64 24] (H.ext L) = .ok (.tup [outV (H.key (L.length + 1)) 4 ((l ++ [e]).drop ((l ++ [e]).length - 24)).length, seV (decide (0 < (l ++ [e]).length - 24)) u (H.key L.length) 5 cs.length]) (H.ext (L ++ [seB (decide (0 < (l ++ [e]).length - 24)) 5 ((keepC ((l ++ [e]).take ((l ++ [e]).length - 24)) cs).map Cell.enc), outB 4 (((l ++ [e]).drop ((l ++ [e]).length - 24)).map Evn.enc)])) := by
 show ot (A149 (H.ext L) [v, u, .agg e.enc, .int .i64 24]) (fun q => .ok (.tup [outV ((H.ext L).key 1) 4 ((q.2.1 ++ [q.2.2.2]).drop ((q.2.1 ++ [q.2.2.2]).length - 24)).length, seV (decide (0 < (q.2.1 ++ [q.2.2.2]).length - 24)) q.1 ((H.ext L).key 0) 5 q.2.2.1.length]) ((H.ext L).ext [seB (decide (0 < (q.2.1 ++ [q.2.2.2]).length - 24)) 5 ((keepC ((q.2.1 ++ [q.2.2.2]).take ((q.2.1 ++ [q.2.2.2]).length - 24)) q.2.2.1).map Cell.enc), outB 4 (((q.2.1 ++ [q.2.2.2]).drop ((q.2.1 ++ [q.2.2.2]).length - 24)).map Evn.enc)])) = _
 rw [ot_eq (p := A149 (H.ext L) [v, u, .agg e.enc, .int .i64 24]) (x := (u, l, cs, e)) ⟨v, rfl, hA, hB, hl, hc, hI⟩, Heap.key_ext, Heap.key_ext, Heap.ext_append]
 ·rfl
 rintro ⟨u', l', cs', e'⟩ ⟨v', h1, h2, h3, _⟩
 injection h1 with h1 h4
 injection h4 with h4 h5
 injection h5 with h5 _
 injection h5 with h5
 dsimp only at h1 h2 h3 h4 h5
 subst h1 h4
 rw [evs_uniq hA h2, cells_uniq hB h3, Evn.enc_one h5]
theorem f160_ok {s : Sh} (h : s.ok H) (hel : s.evs.length < 10000) (hcl : s.cells.length < 10000) {c : Cell} {e : Evn} (hc : cellIs c) (hrl : (refW s.cells c).length < 10000) (hI : isHist (s.evs ++ [e]) (refW s.cells c)) :
  FnOk Tryz.prog 160 [.agg s.enc, .agg c.enc, .agg e.enc] H fun r G => r = .agg (addS s c e (H.key 0) (H.key 1)).enc ∧ G = H.ext (addB s c e) := by
 refine FnOk.assume fun hok => ?_
 refine FnOk.dropW ?_
 refine FnOk.of_WW Tryz.func160 rfl C160ok R160ok ED good_ED ?_
 have i86 := e86 h.c hcl hc
 have cren := h.c.ren
 have eren := h.e.ren
 have dren := h.d.ren
 obtain ⟨cs, hcs⟩ : ∃ cs, cs = refW s.cells c := ⟨_, rfl⟩
 have i149 := fun b0 b1 b2 b3 => e149 (H := H) (v := s.ev) (u := outV (H.key 4) 5 cs.length) (l := s.evs) (cs := cs) (L := [b0, b1, b2, b3, outB 5 (cs.map Cell.enc)]) (e := e) (h.e.ext _) (arr_outV (i := 4) rfl (List.length_map ..)) hel (by rw [hcs]; exact hrl) (by rw [hcs]; exact hI)
 unfold addS addB
 rw [← hcs] at i86 ⊢
 obtain ⟨es, hes⟩ : ∃ es, es = s.evs ++ [e] := ⟨_, rfl⟩
 rw [← hes] at i149 ⊢
 have q5 := fun c k n => one_se (u := outV (H.key 4) 5 cs.length) c k 5 n (one_o ..)
 have q6 := fun {β : Type} c k n (f : β) (d : List AV → β) => agg_se (u := outV (H.key 4) 5 cs.length) c k 5 n (fun {β} f c => agg_o (β := β) (H.key 4) 5 cs.length f c) f d
 simp only [go_sem, C160, Sh.enc, Cell.enc, Evn.enc, i86, i149, q5, q6]
 obtain ⟨n, hn⟩ : ∃ n, n = es.length - 24 := ⟨_, rfl⟩
 rw [← hn]
 by_cases hp : 0 < n
 ·rw [decide_eq_true hp]
  exact ⟨_, [5, 6], by simp only [seV, outV_ren', dren, go_sem], rfl, rfl, by decide, by simp only [seB, go_sem, ↓outB_ren', Cell.map_rens, Evn.map_rens, implies_true]⟩
 ·obtain rfl : n = 0 := by omega
  exact ⟨_, [4, 6], by simp only [seV, outV_ren', dren, go_sem, Nat.lt_irrefl], rfl, rfl, by decide, by simp only [seB, keepC_nil, go_sem, ↓outB_ren', Cell.map_rens, Evn.map_rens, implies_true]⟩
end Go.Proofs
namespace Go.Proofs
open Go Go.Ev
variable {H : Heap}
noncomputable def EE (f : FuncId) (args : List AV) (H : Heap) : RC :=
 match f with
 | 160 => ot (A134 H args) fun q => .ok (.agg (addS q.1 q.2.1 q.2.2 (H.key 0) (H.key 1)).enc) (H.ext (addB q.1 q.2.1 q.2.2))
 | _ => .fail
theorem good_EE : Ev.Good Tryz.prog EE := by
 intro f args H r G he φ w args' ha hw
 refine (?_ : FnOk Tryz.prog f args H fun v' G' => v' = r ∧ G' = G).one φ w args' ha hw
 unfold EE at he
 split at he
 ·obtain ⟨q, ⟨rfl, h1, h2, h3, h4, h5, h6⟩, hz⟩ := ot_ok he
  clear he
  cases hz
  exact f160_ok h1 h2 h3 h4 h5 h6
 ·cases he
theorem e134 {s : Sh} (h : s.ok H) (hel : s.evs.length < 10000) (hcl : s.cells.length < 10000) {c : Cell} {e : Evn} (hc : cellIs c) (hrl : (refW s.cells c).length < 10000) (hI : isHist (s.evs ++ [e]) (refW s.cells c)) (L : List Blk) :
  EE 160 [.agg [.int .i64 s.id, .int .i64 s.ep, .str s.fr, .str s.to, .bool s.frz, s.cv, s.ev, s.dv], .agg [.str c.key, .str c.value, .int .i64 c.ver, .bool c.del, .int .i64 c.floor], .agg [.str e.key, .int .i64 e.ver, .str e.val, .bool e.del]] (H.ext L) = .ok (.agg [.int .i64 s.id, .int .i64 s.ep, .str s.fr, .str s.to, .bool s.frz, outV (H.key L.length) 5 (refW s.cells c).length, outV (H.key (L.length + 1)) 4 ((s.evs ++ [e]).drop ((s.evs ++ [e]).length - 24)).length, s.dv]) (H.ext (L ++ addB s c e)) := by
 show ot (A134 (H.ext L) [.agg s.enc, .agg c.enc, .agg e.enc]) (fun q => .ok (.agg (addS q.1 q.2.1 q.2.2 ((H.ext L).key 0) ((H.ext L).key 1)).enc) ((H.ext L).ext (addB q.1 q.2.1 q.2.2))) = _
 rw [ot_eq (p := A134 (H.ext L) [.agg s.enc, .agg c.enc, .agg e.enc]) (x := (s, c, e)) ⟨rfl, h.ext L, hel, hcl, hc, hrl, hI⟩, Heap.ext_append, Heap.key_ext, Heap.key_ext]
 ·rfl
 ·rintro ⟨s', c', e'⟩ ⟨h1, h2, _⟩
  injection h1 with h1 h3
  injection h3 with h3 h4
  injection h4 with h4 _
  injection h1 with h1
  injection h3 with h3
  injection h4 with h4
  rw [Sh.uniq h1 (h.ext L) h2, Cell.enc_one h3, Evn.enc_one h4]
theorem f99_put {s : Sh} (h : s.ok H) (hel : s.evs.length < 9000) (hcl : s.cells.length < 9000) {k v : List Nat} (hk : isKey k) (hv : (v.length : Int) ≤ 12) (hI : isHist s.evs s.cells) (hm : (getL s.cells k).1.ver < 1000000000000) :
  FnOk Tryz.prog 99 [.agg s.enc, .str k, .str v, .bool false] H fun r G => r = .tup [.agg (addS s (nextC s.cells k v false) (nextE s.cells k v false) (H.key 0) (H.key 1)).enc, .agg [.int .i64 0, .str [], .int .i64 ((getL s.cells k).1.ver + 1), .nils]] ∧ G = H.ext (addB s (nextC s.cells k v false) (nextE s.cells k v false)) := by
 refine FnOk.dropW ?_
 refine FnOk.of_WW Tryz.func99 rfl C99ok R99ok EE good_EE ?_
 obtain ⟨c1, c2, c3, c4, _⟩ := cell_of hI k
 have hput := hist_put hI hk hv (d := false) (fun h => by cases h) hm
 have hw : refW s.cells (nextC s.cells k v false) = withL s.cells (nextC s.cells k v false) := refW_eq hI.1 _
 have hwl := withL_len (nextC s.cells k v false) s.cells
 have hcell : cellIs (nextC s.cells k v false) := isIdx_all hput.1 _ (getL_mem getL_withL_self).1
 have hput' := hput
 rw [← hw] at hput' hwl
 have i134 := e134 h (by omega) (by omega) hcell (by omega) hput'
 have cren := h.c.ren
 have eren := h.e.ren
 have dren := h.d.ren
 simp only [nextC, nextE] at i134
 simp only [go_sem, C99, Sh.enc]
 refine CL.of (f97_ok (h.c.ext _) h.cl k) ?_
 rintro _ _ ⟨rfl, rfl⟩
 simp only [go_sem, Cell.enc]
 refine CL.of (f159_ok (c := (getL s.cells k).1) c2 hm hv) ?_
 rintro _ _ ⟨rfl, rfl⟩
 simp only [go_sem, Cell.enc, Evn.enc, c1, i134, addB]
 refine ⟨_, [6, 7], by simp only [addS, nextC, nextE, Sh.enc, outV_ren', dren, go_sem], rfl, rfl, by decide, by simp only [addB, nextC, nextE, go_sem, ↓outB_ren', Cell.map_rens, Evn.map_rens, implies_true]⟩
end Go.Proofs
namespace Go.Proofs
open Go Go.Ev
variable {H : Heap}
theorem f96_put {k v : List Nat} (hk : isKey k) (hv : (v.length : Int) ≤ 12) : FnOk Tryz.prog 96 [.agg [.int .i64 2, .str k, .str [], .str v, .int .i64 0, .nils]] H fun r G => r = .bool true ∧ G = H := by
 refine FnOk.drop (R := fun r => r = .bool true) ?_ (by rintro v rfl ρ; rw [AV.ren])
 refine FnOk.of_WW Tryz.func96 rfl C96ok R96ok E0 good_E0 ?_
 have z1 := eq_false hk.1
 have z2 := eq_false (show ¬ (40 : Int) < (v.length : Int) by omega)
 simp only [go_sem, C96, z1, z2]
 refine CL.bool (f155_ok k) (fun g => ?_) (fun g => absurd hk g)
 simp only [go_sem, z1, z2]
 exact ⟨_, rfl⟩
theorem f40_put (k v : List Nat) : FnOk Tryz.prog 40 [.agg [.int .i64 2, .str k, .str [], .str v, .int .i64 0, .nils]] H fun r G => r = .bool true ∧ G = H := by
 refine FnOk.drop (R := fun r => r = .bool true) ?_ (by rintro v rfl ρ; rw [AV.ren])
 refine FnOk.of_WW Tryz.func40 rfl C40ok R40ok E0 good_E0 ?_
 simp only [go_sem, C40]
 exact ⟨_, rfl⟩
theorem f39_put {s : Sh} (h : s.ok H) (hel : s.evs.length < 9000) (hcl : s.cells.length < 9000) {k v : List Nat} (hk : isKey k) (hv : (v.length : Int) ≤ 12) (hI : isHist s.evs s.cells) (hm : (getL s.cells k).1.ver < 1000000000000) :
  FnOk Tryz.prog 39 [.agg s.enc, .agg [.int .i64 2, .str k, .str [], .str v, .int .i64 0, .nils]] H fun r G => r = .tup [.agg (addS s (nextC s.cells k v false) (nextE s.cells k v false) (H.key 0) (H.key 1)).enc, .agg [.int .i64 0, .str [], .int .i64 ((getL s.cells k).1.ver + 1), .nils]] ∧ G = H.ext (addB s (nextC s.cells k v false) (nextE s.cells k v false)) := by
 refine FnOk.dropW ?_
 refine FnOk.of_WW Tryz.func39 rfl C39ok R39ok E0 good_E0 ?_
 have cren := h.c.ren
 have eren := h.e.ren
 have dren := h.d.ren
 simp only [go_sem, C39, Sh.enc]
 refine CL.of (f96_put hk hv) ?_
 rintro _ _ ⟨rfl, rfl⟩
 simp only [go_sem]
 refine CL.of (f97_ok (h.c.ext _) h.cl k) ?_
 rintro _ _ ⟨rfl, rfl⟩
 simp only [go_sem, Cell.enc]
 refine CL.of (f99_put (h.ext _) hel hcl hk hv hI hm) ?_
 rintro _ _ ⟨rfl, rfl⟩
 simp only [go_sem, Sh.enc, addS, addB, Heap.key_ext]
 refine ⟨_, [5, 6], by simp only [addS, nextC, nextE, Sh.enc, outV_ren', dren, go_sem], rfl, rfl, by decide, by simp only [addB, nextC, nextE, go_sem, ↓outB_ren', Cell.map_rens, Evn.map_rens, implies_true]⟩
theorem f9_put {s : Sh} (h : s.ok H) (hdl : s.done.length < 9000) (hel : s.evs.length < 9000) (hcl : s.cells.length < 9000) {k v : List Nat} (hk : isKey k) (hv : (v.length : Int) ≤ 12) (hI : isHist s.evs s.cells) (hm : (getL s.cells k).1.ver < 1000000000000) (hup : upD s.done) {ses id : Int} (hn : (stands s.done ses id).2 = 0) (hkp : ¬ keepsD s.done ⟨ses, id, putA ((getL s.cells k).1.ver + 1)⟩) :
  FnOk Tryz.prog 9 [.agg s.enc, .int .i64 ses, .int .i64 id, .agg [.int .i64 2, .str k, .str [], .str v, .int .i64 0, .nils]] H fun r G => r = .tup [.agg (askS s k v ses id (H.key 0) (H.key 1) (H.key 2)).enc, .agg [.int .i64 0, .str [], .int .i64 ((getL s.cells k).1.ver + 1), .nils], .int .i64 0] ∧ G = H.ext (askB s k v ses id) := by
 refine FnOk.dropW ?_
 refine FnOk.of_WW Tryz.func9 rfl C9ok R9ok E0 good_E0 ?_
 have hdok := withD_ok h.dok (putA_ok H ((getL s.cells k).1.ver + 1)) (d := ⟨ses, id, putA ((getL s.cells k).1.ver + 1)⟩)
 have drn := hdok.rens
 simp only [go_sem, C9, Sh.enc]
 refine CL.of (f38_ok (h.d.ext _) (h.dok.ext _) (by omega) ses id) ?_
 rintro _ _ ⟨rfl, rfl⟩
 simp only [go_sem, An.enc, hn]
 refine CL.of (f39_put (h.ext _) hel hcl hk hv hI hm) ?_
 rintro _ _ ⟨rfl, rfl⟩
 simp only [go_sem, Sh.enc, addS, addB, Heap.key_ext]
 refine CL.of (f40_put k v) ?_
 rintro _ _ ⟨rfl, rfl⟩
 simp only [go_sem, Sh.enc]
 refine CL.of (f41_with (d := ⟨ses, id, putA ((getL s.cells k).1.ver + 1)⟩) (h.d.ext _) (h.dok.ext _) (putA_ok _ _) hup (by omega) hkp) ?_
 rintro _ _ ⟨rfl, rfl⟩
 simp only [go_sem, Sh.enc]
 refine ⟨_, [5, 6, 9], by simp only [askS, addS, nextC, nextE, Sh.enc, outV_ren', go_sem], rfl, rfl, by decide, by simp only [askB, addB, nextC, nextE, go_sem, ↓outB_ren', Cell.map_rens, Evn.map_rens, drn, implies_true]⟩
end Go.Proofs
namespace Go.Proofs
open Go Go.Ev
variable {H : Heap}
theorem f99_c {N : Nat} {s : Sh} (h : s.ok H) (hG : GdC N s) (hN : N < 900) {k v : List Nat} (hk : isKey k) (hv : (v.length : Int) ≤ 12) :
  FnOk Tryz.prog 99 [.agg s.enc, .str k, .str v, .bool false] H (fun r G => r = .tup [.agg (chgS s k v (H.key 0) (H.key 1)).enc, .agg [.int .i64 0, .str [], .int .i64 ((getL s.cells k).1.ver + 1), .nils]] ∧ G = H.ext [outB 5 ((chgS s k v (H.key 0) (H.key 1)).cells.map Cell.enc), outB 4 ((chgS s k v (H.key 0) (H.key 1)).evs.map Evn.enc)]) :=
 f99_put h (by have := hG.el; omega) (by have := hG.cl; omega) hk hv hG.hist (by have := hG.vers k; omega)
theorem GdC.up {N M : Nat} {s : Sh} (h : GdC N s) (hM : N ≤ M) : GdC M s := ⟨h.hd, h.keys, h.hist, h.el, fun k => by have := h.vers k; omega, Nat.le_trans h.cl hM⟩
def A99 (H : Heap) (args : List AV) (q : Sh × List Nat × List Nat) : Prop := args = [.agg q.1.enc, .str q.2.1, .str q.2.2, .bool false] ∧ q.1.ok H ∧ GdC 899 q.1 ∧ isKey q.2.1 ∧ (q.2.2.length : Int) ≤ 12
noncomputable def EH (f : FuncId) (args : List AV) (H : Heap) : RC :=
 match f with
 | 161 => match args with | [.agg [.str f, .str t], .str k] => .ok (.bool (decide (has f t k))) H | _ => .fail
 | 99 => ot (A99 H args) fun q => .ok (.tup [.agg (chgS q.1 q.2.1 q.2.2 (H.key 0) (H.key 1)).enc, .agg [.int .i64 0, .str [], .int .i64 ((getL q.1.cells q.2.1).1.ver + 1), .nils]]) (H.ext [outB 5 ((chgS q.1 q.2.1 q.2.2 (H.key 0) (H.key 1)).cells.map Cell.enc), outB 4 ((chgS q.1 q.2.1 q.2.2 (H.key 0) (H.key 1)).evs.map Evn.enc)])
 | _ => .fail
theorem good_EH : Ev.Good Tryz.prog EH := by
 intro f args H r G he φ w args' ha hw
 refine (?_ : FnOk Tryz.prog f args H fun v' G' => v' = r ∧ G' = G).one φ w args' ha hw
 unfold EH at he
 split at he
 ·split at he
  ·cases he; exact f161_ok _ _ _
  ·cases he
 ·obtain ⟨q, ⟨rfl, h1, h2, h3, h4⟩, hz⟩ := ot_ok he
  clear he
  cases hz
  exact f99_c h1 h2 (by decide) h3 h4
 ·cases he
theorem e99 {N : Nat} {s : Sh} {G : Heap} (h : s.ok G) (hG : GdC N s) (hN : N < 900) {k v : List Nat} (hk : isKey k) (hv : (v.length : Int) ≤ 12) :
  EH 99 [.agg [.int .i64 s.id, .int .i64 s.ep, .str s.fr, .str s.to, .bool s.frz, s.cv, s.ev, s.dv], .str k, .str v, .bool false] G = .ok (.tup [.agg (chgS s k v (G.key 0) (G.key 1)).enc, .agg [.int .i64 0, .str [], .int .i64 ((getL s.cells k).1.ver + 1), .nils]]) (G.ext [outB 5 ((chgS s k v (G.key 0) (G.key 1)).cells.map Cell.enc), outB 4 ((chgS s k v (G.key 0) (G.key 1)).evs.map Evn.enc)]) := by
 show ot (A99 G [.agg s.enc, .str k, .str v, .bool false]) (fun q => .ok (.tup [.agg (chgS q.1 q.2.1 q.2.2 (G.key 0) (G.key 1)).enc, .agg [.int .i64 0, .str [], .int .i64 ((getL q.1.cells q.2.1).1.ver + 1), .nils]]) (G.ext [outB 5 ((chgS q.1 q.2.1 q.2.2 (G.key 0) (G.key 1)).cells.map Cell.enc), outB 4 ((chgS q.1 q.2.1 q.2.2 (G.key 0) (G.key 1)).evs.map Evn.enc)])) = _
 rw [ot_eq (p := A99 G [.agg s.enc, .str k, .str v, .bool false]) (x := (s, k, v)) ⟨rfl, h, hG.up (by omega), hk, hv⟩]
 rintro ⟨s', k', v'⟩ ⟨h1, h2, _⟩
 injection h1 with h1 h3
 injection h3 with h3 h4
 injection h4 with h4 _
 injection h1 with h1
 injection h3 with h3
 injection h4 with h4
 rw [Sh.uniq h1 h h2, h3, h4]
theorem eh (f t k : List Nat) (H : Heap) : EH 161 [.agg [.str f, .str t], .str k] H = .ok (.bool (decide (has f t k))) H := rfl
theorem f102_three {N : Nat} {s : Sh} (hok : H.ok) (h : s.ok H) (hG : GdC N s) (hN : N < 800) {a b c v : List Nat} (ha : isKey a) (hb : isKey b) (hc : isKey c) (hv : (v.length : Int) ≤ 12)
  {kw : K} {ex : Bool} {cap : Nat} (hk : H.get kw = some (.row true 3 ((wr3 a b c v).map Wr.enc))) :
  ∃ y L, FnOk Tryz.prog 102 [.agg s.enc, .slice kw 0 3 3 ex cap] H (fun r G => r = .tup [.agg (Sh.enc y), .agg [.int .i64 0, .str [], .int .i64 3, .nils]] ∧ G = H.ext L) ∧ L[14]? = some (outB 5 (y.cells.map Cell.enc)) ∧ L[15]? = some (outB 4 (y.evs.map Evn.enc)) ∧ (y.cv = outV (H.key 14) 5 y.cells.length ∧ y.ev = outV (H.key 15) 4 y.evs.length) ∧ GdC (N + 3) y ∧ sameSh y (chg3 s a b c v .z .z) ∧ y.dv = s.dv := by
 obtain ⟨e1, e2, e3, e4, e5⟩ := hG.hd
 have hk' : ∀ L, (H.ext L).get kw = some (.row true 3 [[.str a, .str v, .bool false], [.str b, .str v, .bool false], [.str c, .str v, .bool false]]) := fun L => Heap.get_ext_old hok hk L
 have ok1 : ∀ L : List Blk, L[6]? = some (outB 5 ((chgS s a v (H.key 6) (H.key 7)).cells.map Cell.enc)) → L[7]? = some (outB 4 ((chgS s a v (H.key 6) (H.key 7)).evs.map Evn.enc)) → (chgS s a v (H.key 6) (H.key 7)).ok (H.ext L) := fun L h5 h6 => chg_ok h ⟨rfl, rfl⟩ hG (by omega) h5 h6
 have x1 := fun L => e99 (h.ext L) hG (by omega) ha hv
 obtain ⟨y1, hy1⟩ : ∃ y1, y1 = chgS s a v (H.key 6) (H.key 7) := ⟨_, rfl⟩
 have g1 : GdC (N + 1) y1 := by rw [hy1]; exact hG.chg (by omega) ha hv _ _
 have d1 : y1.done = s.done ∧ y1.dv = s.dv := by rw [hy1]; exact ⟨rfl, rfl⟩
 rw [← hy1] at ok1
 have x2 := fun L h5 h6 => e99 (ok1 L h5 h6) g1 (by omega) hb hv
 have ok2 : ∀ L : List Blk, L[10]? = some (outB 5 ((chgS y1 b v (H.key 10) (H.key 11)).cells.map Cell.enc)) → L[11]? = some (outB 4 ((chgS y1 b v (H.key 10) (H.key 11)).evs.map Evn.enc)) → (chgS y1 b v (H.key 10) (H.key 11)).ok (H.ext L) := fun L h5 h6 => chg_ok h d1 g1 (by omega) h5 h6
 obtain ⟨y2, hy2⟩ : ∃ y2, y2 = chgS y1 b v (H.key 10) (H.key 11) := ⟨_, rfl⟩
 have g2 : GdC (N + 2) y2 := by rw [hy2]; exact g1.chg (by omega) hb hv _ _
 have d2 : y2.done = s.done ∧ y2.dv = s.dv := by rw [hy2]; exact d1
 rw [← hy2] at ok2
 have x3 := fun L h5 h6 => e99 (ok2 L h5 h6) g2 (by omega) hc hv
 obtain ⟨y3, hy3⟩ : ∃ y3, y3 = chgS y2 c v (H.key 14) (H.key 15) := ⟨_, rfl⟩
 have g3 : GdC (N + 3) y3 := by rw [hy3]; exact g2.chg (by omega) hc hv _ _
 have v3 : y3.ev = outV (H.key 15) 4 y3.evs.length := by rw [hy3]; exact chg_ev ..
 have u3 : y3.cv = outV (H.key 14) 5 y3.cells.length := by rw [hy3]; exact chg_cv ..
 have d3 : y3.done = s.done ∧ y3.dv = s.dv := by rw [hy3]; exact d2
 have w1 : IntKind.i64.wrap (0 + 1) = 1 := rfl
 have w2 : IntKind.i64.wrap (1 + 1) = 2 := rfl
 have w3 : IntKind.i64.wrap (2 + 1) = 3 := rfl
 have q3 : ∀ k : List AV → R1, readC R1.fail 3 [[.str a, .str v, .bool false], [.str b, .str v, .bool false], [.str c, .str v, .bool false]] 3 1 k = k [.str b] := fun _ => rfl
 have q4 : ∀ k : List AV → R1, readC R1.fail 3 [[.str a, .str v, .bool false], [.str b, .str v, .bool false], [.str c, .str v, .bool false]] 4 1 k = k [.str v] := fun _ => rfl
 have q5 : ∀ k : List AV → R1, readC R1.fail 3 [[.str a, .str v, .bool false], [.str b, .str v, .bool false], [.str c, .str v, .bool false]] 5 1 k = k [.bool false] := fun _ => rfl
 have q6 : ∀ k : List AV → R1, readC R1.fail 3 [[.str a, .str v, .bool false], [.str b, .str v, .bool false], [.str c, .str v, .bool false]] 6 1 k = k [.str c] := fun _ => rfl
 have q7 : ∀ k : List AV → R1, readC R1.fail 3 [[.str a, .str v, .bool false], [.str b, .str v, .bool false], [.str c, .str v, .bool false]] 7 1 k = k [.str v] := fun _ => rfl
 have q8 : ∀ k : List AV → R1, readC R1.fail 3 [[.str a, .str v, .bool false], [.str b, .str v, .bool false], [.str c, .str v, .bool false]] 8 1 k = k [.bool false] := fun _ => rfl
 have z1 : (1 : Int).toNat = 1 := rfl
 have z2 : (2 : Int).toNat = 2 := rfl
 have ha' : has s.fr s.to a := by rw [e3, e4]; exact has_all ha
 have hb' : has s.fr s.to b := by rw [e3, e4]; exact has_all hb
 have hc' : has s.fr s.to c := by rw [e3, e4]; exact has_all hc
 refine ⟨?y, ?L, ?a, ?b⟩
 case a =>
  refine FnOk.of_WW Tryz.func102 rfl C102ok R102ok EH good_EH ?_
  simp only [go_sem, C102, Sh.enc]
  refine LL.un good_EH 3 ?_
  simp only [go_sem, hk', Sh.enc, w1, w2, w3, z1, z2, eh, decide_eq_true ha', decide_eq_true hb', decide_eq_true hc', q3, q4, q5, q6, q7, q8]
  refine LL.un good_EH 3 ?_
  simp only [go_sem, hk', Sh.enc, w1, w2, w3, z1, z2, q3, q4, q5, q6, q7, q8, x1, Heap.key_ext, List.length_cons, List.length_nil, Nat.zero_add, Nat.reduceAdd]
  rw [← hy1]
  rw [x2 _ (by rfl) (by rfl)]
  simp only [Heap.key_ext, List.length_cons, List.length_nil, Nat.zero_add, Nat.reduceAdd]
  rw [← hy2]
  simp only [go_sem, hk', Sh.enc, w1, w2, w3, z1, z2, q3, q4, q5, q6, q7, q8]
  rw [x3 _ (by rfl) (by rfl)]
  simp only [Heap.key_ext, List.length_cons, List.length_nil, Nat.zero_add, Nat.reduceAdd]
  rw [← hy3]
  simp only [go_sem, hk', Sh.enc, w1, w2, w3, z1, z2, q3, q4, q5, q6, q7, q8]
  refine And.intro ?_ ?_
  ·exact rfl
  ·exact rfl
 case b =>
  refine ⟨rfl, rfl, ⟨u3, v3⟩, g3, ?_, d3.2⟩
  rw [hy3]
  refine chgS_same ?_ ..
  rw [hy2]
  refine chgS_same ?_ ..
  rw [hy1]
  exact chgS_same ⟨rfl, rfl, rfl, rfl, rfl, rfl, rfl, rfl⟩ ..
end Go.Proofs
namespace Go.Proofs
open Go Go.Ev
variable {H : Heap}
theorem f102_bat {N : Nat} {s : Sh} (hok : H.ok) (h : s.ok H) (hG : GdC N s) (hN : N < 800) {a b c v : List Nat} (ha : isKey a) (hb : isKey b) (hc : isKey c) (hv : (v.length : Int) ≤ 12)
  {kw : K} {ex : Bool} {cap : Nat} (hk : H.get kw = some (.row true 3 ((wr3 a b c v).map Wr.enc))) :
  FnOk Tryz.prog 102 [.agg s.enc, .slice kw 0 3 3 ex cap] H fun r G => r = .tup [.agg (batS s a b c v (H.key 0) (H.key 1)).enc, .agg [.int .i64 0, .str [], .int .i64 3, .nils]] ∧ G = H.ext (batB s a b c v) := by
 refine FnOk.dropW ?_
 obtain ⟨y, L, hx, l1, l2, ⟨l3, l4⟩, -, ⟨s1, s2, s3, s4, s5, s6, s7, s8⟩, l5⟩ := f102_three hok h hG hN ha hb hc hv (ex := ex) (cap := cap) hk
 refine hx.mono ?_
 rintro r G ⟨rfl, rfl⟩
 have dren := h.d.ren
 rw [s6] at l1 l3
 rw [s7] at l2 l4
 have t1 : s.id = y.id := s1.symm
 have t2 : s.ep = y.ep := s2.symm
 have t3 : s.fr = y.fr := s3.symm
 have t4 : s.to = y.to := s4.symm
 have t5 : s.frz = y.frz := s5.symm
 refine ⟨L, [14, 15], ?_, rfl, rfl, by decide, ?_⟩
 ·simp only [batS, Sh.enc, l3, l4, l5, t1, t2, t3, t4, t5, outV_ren', dren, go_sem]
 ·simp only [batB, go_sem, l1, l2, ↓outB_ren', Cell.map_rens, Evn.map_rens, implies_true]
theorem refC (x : Nat) : chkB [wrB x] [wrB x] [.z] [.agg (batL (.slice .z 0 3 3 true 3))] (.bool true) = true := by kernel_rfl
theorem refR_ (x : Nat) : runL (evFn Tryz.prog XL 100000 96 [.agg (batL (.slice .z 0 3 3 true 3))] (hp0.ext [wrB x])) [.z] [wrB x] = some ((AV.bool true).ren (rk [.z] .z), true, wantL [.z] [wrB x]) := by kernel_rfl
theorem f96_bat {x : Nat} {kw : K} (hok : H.ok) (hk : H.get kw = some (wrB x)) : FnOk Tryz.prog 96 [.agg (batL (.slice kw 0 3 3 true 3))] H fun r G => r = .bool true ∧ G = H := by
 have := FnOk.runF good_XL (refC x) (refR_ x) (fun i hi => by
  have : i = 0 := by have hi : i < 1 := hi; omega
  subst this; rfl) rfl (fun ρ => by rw [AV.ren]) (fit_wr hok hk)
 simp only [batL, opL, AV.rens, AV.ren] at this ⊢
 exact this
theorem f40_bat (wv : AV) : FnOk Tryz.prog 40 [.agg (batL wv)] H fun r G => r = .bool true ∧ G = H := by
 refine FnOk.drop (R := fun r => r = .bool true) ?_ (by rintro v rfl ρ; simp only [AV.ren])
 refine FnOk.of_WW Tryz.func40 rfl C40ok R40ok E0 good_E0 ?_
 simp only [go_sem, C40, batL, opL]
 first | done | exact ⟨_, rfl⟩ | exact ⟨rfl, _, rfl⟩ | trace_state
theorem f39_bat {N x : Nat} {s : Sh} (hok : H.ok) (h : s.ok H) (hG : GdC N s) (hN : N < 800) {kw : K} (hk : H.get kw = some (wrB x)) :
  FnOk Tryz.prog 39 [.agg s.enc, .agg (batL (.slice kw 0 3 3 true 3))] H fun r G => r = .tup [.agg (batS s [97] [98] [99] [x] (H.key 0) (H.key 1)).enc, .agg [.int .i64 0, .str [], .int .i64 3, .nils]] ∧ G = H.ext (batB s [97] [98] [99] [x]) := by
 refine FnOk.dropW ?_
 refine FnOk.of_WW Tryz.func39 rfl C39ok R39ok E0 good_E0 ?_
 have cren := h.c.ren
 have eren := h.e.ren
 have dren := h.d.ren
 have e1 := fun L => f96_bat (Heap.ok_ext hok L) (Heap.get_ext_old hok hk L)
 simp only [batL, opL] at e1
 simp only [go_sem, C39, Sh.enc, batL, opL]
 refine CL.of (e1 _) ?_
 rintro _ _ ⟨rfl, rfl⟩
 simp only [go_sem]
 refine CL.of (f97_ok (h.c.ext _) h.cl []) ?_
 rintro _ _ ⟨rfl, rfl⟩
 simp only [go_sem, Cell.enc]
 refine CL.of (f102_bat (Heap.ok_ext hok _) (h.ext _) hG hN key_a key_b key_c2 (v := [x]) (by show (1 : Int) ≤ 12; decide) (Heap.get_ext_old hok hk _)) ?_
 rintro _ _ ⟨rfl, rfl⟩
 simp only [go_sem, Sh.enc, batS, batB, Heap.key_ext]
 refine ⟨_, [5, 6], by simp only [batS, Sh.enc, outV_ren', dren, go_sem], rfl, rfl, by decide, by simp only [batB, go_sem, ↓outB_ren', Cell.map_rens, Evn.map_rens, implies_true]⟩
theorem f9_bat {N x : Nat} {s : Sh} (hok : H.ok) (h : s.ok H) (hG : GdC N s) (hN : N < 800) {kw : K} (hk : H.get kw = some (wrB x)) (hdl : s.done.length < 9000) (hup : upD s.done) {ses id : Int} (hn : (stands s.done ses id).2 = 0) (hkp : ¬ keepsD s.done ⟨ses, id, putA 3⟩) :
  FnOk Tryz.prog 9 [.agg s.enc, .int .i64 ses, .int .i64 id, .agg (batL (.slice kw 0 3 3 true 3))] H fun r G => r = .tup [.agg (batA s [97] [98] [99] [x] ses id (H.key 0) (H.key 1) (H.key 2)).enc, .agg [.int .i64 0, .str [], .int .i64 3, .nils], .int .i64 0] ∧ G = H.ext (batC s [97] [98] [99] [x] ses id) := by
 refine FnOk.dropW ?_
 refine FnOk.of_WW Tryz.func9 rfl C9ok R9ok E0 good_E0 ?_
 have hdok := withD_ok h.dok (putA_ok H 3) (d := ⟨ses, id, putA 3⟩)
 have drn := hdok.rens
 have e39 := fun L => f39_bat (Heap.ok_ext hok L) (h.ext L) hG hN (Heap.get_ext_old hok hk L)
 simp only [batL, opL] at e39
 simp only [go_sem, C9, Sh.enc, batL, opL]
 refine CL.of (f38_ok (h.d.ext _) (h.dok.ext _) (by omega) ses id) ?_
 rintro _ _ ⟨rfl, rfl⟩
 simp only [go_sem, An.enc, hn]
 refine CL.of (e39 _) ?_
 rintro _ _ ⟨rfl, rfl⟩
 simp only [go_sem, Sh.enc, batS, batB, Heap.key_ext]
 refine CL.of (f40_bat _) ?_
 rintro _ _ ⟨rfl, rfl⟩
 simp only [go_sem, Sh.enc]
 refine CL.of (f41_with (d := ⟨ses, id, putA 3⟩) (h.d.ext _) (h.dok.ext _) (putA_ok _ _) hup (by omega) hkp) ?_
 rintro _ _ ⟨rfl, rfl⟩
 simp only [go_sem, Sh.enc]
 refine ⟨_, [5, 6, 9], by simp only [batA, Sh.enc, outV_ren', go_sem], rfl, rfl, by decide, by simp only [batC, batB, go_sem, ↓outB_ren', Cell.map_rens, Evn.map_rens, drn, implies_true]⟩
end Go.Proofs
namespace Go.Proofs
open Go Go.Ev
section
variable {G : Heap} {kn kd kj kh : K} {s t0 s0 : Sh} {ses id kd0 n0 av : Int} {key to val fk : List Nat} {wv : AV} {w : Option (K × List (List AV))}
def askR (kh : K) (av : Int) (t0 : Sh) (f : FuncId) (args : List AV) (H : Heap) (v : AV) (X : Heap) : Prop := v = .tup [.agg [.int .i64 0, .str [], .int .i64 av, .nils], .nili] ∧ (∃ lv' t, isHd X kh lv' .nils [t] [] ∧ Rel t t0) ∧ Nx kh H X
theorem okW.keep {ks : List K} {G' : Heap} (hw : okW w G) (hk : Kp ks G G') (hks : ∀ j ∈ ks, ∀ rows, G.get j ≠ some (.row true 3 rows)) : okW w G' := fun k rows e => hk.keep k _ (fun hm => hks k hm rows (hw k rows e)) (hw k rows e)
theorem f25_ask (D : Does ses id kd0 key to val n0 wv w fk s0 t0 av) {x0 wts x5 x6 x7 lv : AV} {bs T : List Nat} {n m : Nat} (hn : G.get kn = some (.row true 8 [[x0, .ptr kd 0, .ptr kj 0, .ptr kh 0, wts, x5, x6, x7]])) (hd : G.get kd = some (.row true 2 [[.str bs, .int .i64 n]])) (hj : G.get kj = some (.row true 2 [[.ptr kd 0, .int .i64 m]]))
  (hh : isHd G kh lv .nils [s] []) (hR : Rel s s0) (hw : okW w G) (hB : ∀ J : Heap, J.ok → okW w J → FnOk Tryz.prog 54 [.agg (reqL ses id (opL kd0 key to val n0 wv))] J fun r J' => r = .str T ∧ J' = J) (hT : T ≠ []) (hTl : T.length < 1000000) (hl : bs.length + (wrapT T).length ≤ 200000) (hnl : n ≤ bs.length) (hm : m < 1000000) :
  FnOk Tryz.prog 25 [.ptr kn 0, .agg (reqL ses id (opL kd0 key to val n0 wv))] G fun r G' => r = .tup [.agg [.int .i64 0, .str [], .int .i64 av, .nils], .nili] ∧
   G'.get kd = some (.row true 2 [[.str (bs ++ wrapT T), .int .i64 ((n + (wrapT T).length : Nat) : Int)]]) ∧ G'.get kj = some (.row true 2 [[.ptr kd 0, .int .i64 ((m + 1 : Nat) : Int)]]) ∧
   (∃ lv' t, isHd G' kh lv' .nils [t] [] ∧ Rel t t0) ∧ Kp [kd, kj, kh] G G' := by
 refine FnOk.of_WW Tryz.func25 rfl C25ok R25ok (EC Tryz.prog (askR kh av t0)) (good_EC _ _) ?_
 have hn' := fun L => Heap.get_ext_old hh.ok hn L
 obtain ⟨rl, hrl⟩ : ∃ rl, rl = reqL ses id (opL kd0 key to val n0 wv) := ⟨_, rfl⟩
 have hrl' : [AV.int .i64 2, .int .i64 ses, .int .i64 id, .int .i64 0, .int .i64 0, .int .i64 0, .int .i64 kd0, .str key, .str to, .str val, .int .i64 n0, wv, .str [], .str [], .nils, .nils] = rl := by rw [hrl]; rfl
 simp only [go_sem, C25, hn', reqL, opL, List.cons_append, List.nil_append]
 refine CL.of f23_ok ?_
 rintro _ G' ⟨rfl, hG⟩; rw [hG]; clear hG
 simp only [go_sem, hn']
 refine CL.of (f55_one (hh.ext _)) ?_
 rintro _ G1 ⟨c, cv, ev, dv, L, rfl, rfl, hA, ho⟩
 simp only [go_sem, hn', baseL, Heap.key_ext]
 rw [hrl'] at hA ho ⊢
 have hF := (hh.ext [Blk.row true 16 [rl], .row true 4 [zA], .row true 2 [[.nils, .nils]]]).ext L
 have ht : isHd ((G.ext [Blk.row true 16 [rl], .row true 4 [zA], .row true 2 [[.nils, .nils]]]).ext L) (G.key 2) .nils .nils [] [] := ⟨hF.ok, get_lit2 rfl, .inl ⟨rfl, rfl⟩, .inl ⟨rfl, rfl⟩, by simp, by simp, by simp⟩
 have hPc := hR.cop cv ev dv
 refine CL.of (f44_base1 ht hA ho (hPc.sh D.sh) (hPc.small D.small)) ?_
 rintro _ G' ⟨rfl, ⟨lv2, cv2, ev2, dv2, ht2⟩, hnx⟩
 obtain ⟨G2, hG2⟩ : ∃ G2, G2 = G' := ⟨_, rfl⟩
 rw [← hG2] at ht2 hnx ⊢
 clear hG2
 have hk2 : kh ≠ G.key 2 := ne_key hh.ok hh.row 2
 have hh2 := ht.other hF hk2 ht2.ok hnx
 have n02 : G.key 2 ≠ G.key 0 := fun e => by
  have := congrArg K.toNat e
  rw [Heap.toNat_key, Heap.toNat_key] at this
  omega
 have n12 : G.key 2 ≠ G.key 1 := fun e => by
  have := congrArg K.toNat e
  rw [Heap.toNat_key, Heap.toNat_key] at this
  omega
 have e0 := hnx.keep (G.key 0) _ n02 (get_lit2 rfl)
 have e1 := hnx.keep (G.key 1) _ n12 (get_lit2 rfl)
 rw [Heap.ext_append] at hnx
 have kp2 := Nx.kp hh.ok hnx
 have hn2 := kp2.keep _ _ List.not_mem_nil hn
 have hd2 := kp2.keep _ _ List.not_mem_nil hd
 have hj2 := kp2.keep _ _ List.not_mem_nil hj
 have hw2 : okW w G2 := hw.keep kp2 (by simp)
 rw [hrl] at e0
 simp only [reqL, opL, List.cons_append, List.nil_append] at e0
 have g0 := fun L => Heap.get_ext_old ht2.ok e0 L
 have g1 := fun L => Heap.get_ext_old ht2.ok e1 L
 have gn := fun L => Heap.get_ext_old ht2.ok hn2 L
 have hPc2 := hPc.cop cv2 ev2 dv2
 refine WW.nil ?_
 simp only [go_sem, zA, g0, g1, gn]
 obtain ⟨X3, hx3, ⟨lv3, t3, ht3, -⟩, hnx3⟩ := f44_askE D (ht2.ext [.row true 4 [zA]]) hPc2 (hw2.ext ht2.ok _)
 simp only [reqL, opL, List.cons_append, List.nil_append, zA] at hx3
 refine CL.of hx3 ?_
 rintro _ G' ⟨rfl, hG⟩
 obtain ⟨G3, hG3⟩ : ∃ G3, G3 = X3 := ⟨_, rfl⟩
 rw [hG]
 rw [← hG3] at ht3 hnx3 ⊢
 clear hG3 hG hx3
 have hh3 := (ht2.ext _).other (hh2.ext _) hk2 ht3.ok hnx3
 have f0 := hnx3.keep (G.key 0) _ n02 (g0 _)
 have f1 := hnx3.keep (G.key 1) _ n12 (g1 _)
 have kp3 : Kp [] G G3 := kp2.nx hh.ok ht2.ok hnx3
 have hn3 := kp3.keep _ _ List.not_mem_nil hn
 have hd3 := kp3.keep _ _ List.not_mem_nil hd
 have hj3 := kp3.keep _ _ List.not_mem_nil hj
 have hw3 : okW w G3 := hw.keep kp3 (by simp)
 have u0 := fun L => Heap.get_ext_old ht3.ok f0 L
 have u1 := fun L => Heap.get_ext_old ht3.ok f1 L
 have un := fun L => Heap.get_ext_old ht3.ok hn3 L
 refine WW.nil ?_
 simp only [go_sem, zA, u0, u1, un]
 have hB' := fun J ho hJ => hB J ho hJ
 simp only [reqL, opL, List.cons_append, List.nil_append] at hB'
 refine CL.of (hB' _ (Heap.ok_ext ht3.ok _) (hw3.ext ht3.ok _)) ?_
 rintro _ G' ⟨rfl, hG⟩
 rw [hG]
 clear hG
 simp only [go_sem, zA, u0, u1, un]
 refine ⟨fun h => absurd h hT, fun _ => ?_⟩
 have nkn : kd ≠ kn := by rintro rfl; rw [hn] at hd; cases hd
 have njn : kj ≠ kn := by rintro rfl; rw [hn] at hj; cases hj
 have nkj : kd ≠ kj := by rintro rfl; rw [hd] at hj; cases hj
 have nkh : kd ≠ kh := by have := hh.row; rintro rfl; rw [hd] at this; cases this
 have njh : kj ≠ kh := by have := hh.row; rintro rfl; rw [hj] at this; cases this
 have nhn : kh ≠ kn := by have := hh.row; rintro rfl; rw [hn] at this; cases this
 refine CL.of (f66_ok (Heap.get_ext_old ht3.ok hj3 _) (Heap.get_ext_old ht3.ok hd3 _) hl hnl hm hTl) ?_
 rintro _ G' ⟨rfl, hG⟩
 obtain ⟨G4, hG4⟩ : ∃ G4, G4 = G' := ⟨_, rfl⟩
 rw [← hG4] at hG ⊢
 clear hG4
 have keep4 : ∀ j b, kd ≠ j → kj ≠ j → G3.get j = some b → G4.get j = some b := fun j b h1 h2 h => by
  rw [hG, Heap.get_set, if_neg h2, Heap.get_set, if_neg h1]
  exact Heap.get_ext_old ht3.ok h _
 have hh4 : isHd G4 kh lv .nils [s] [] := by
  rw [hG]
  refine ((hh3.ext _).set2 (Heap.get_ext_old ht3.ok hd3 _) (by simp) nkh _).set2 (wr := true) (x := .ptr kd 0) (y := .int .i64 m) ?_ (by simp) njh _
  rw [Heap.get_set, if_neg nkj]
  exact Heap.get_ext_old ht3.ok hj3 _
 have m0 := keep4 _ _ (ne_key hh.ok hd 0) (ne_key hh.ok hj 0) f0
 have m1 := keep4 _ _ (ne_key hh.ok hd 1) (ne_key hh.ok hj 1) f1
 have mn := keep4 _ _ nkn njn hn3
 have md : G4.get kd = some (.row true 2 [[.str (bs ++ wrapT T), .int .i64 ((n + (wrapT T).length : Nat) : Int)]]) := by rw [hG, Heap.get_set, if_neg (Ne.symm nkj), Heap.get_set, if_pos rfl]
 have mj : G4.get kj = some (.row true 2 [[.ptr kd 0, .int .i64 ((m + 1 : Nat) : Int)]]) := by rw [hG, Heap.get_set, if_pos rfl]
 have kp4 : Kp [kd, kj, kh] G G4 := ⟨fun j b hj' hb => keep4 _ _ (by rintro rfl; simp at hj') (by rintro rfl; simp at hj') (kp3.keep j b List.not_mem_nil hb), by rw [hG]; exact Nat.le_trans kp3.le (by rw [Heap.nx_set, Heap.nx_set, Heap.nx_ext, Heap.toNat_key]; exact Nat.le_add_right _ _)⟩
 have n3 : ∀ j ∈ [kd, kj, kh], ∀ rows, G.get j ≠ some (.row true 3 rows) := fun j hm rows e => by
  simp only [List.mem_cons, List.not_mem_nil, or_false] at hm
  rcases hm with rfl | rfl | rfl
  ·rw [hd] at e; cases e
  ·rw [hj] at e; cases e
  ·rw [hh.row] at e; cases e
 have hw4 : okW w G4 := hw.keep kp4 n3
 have v0 := fun L => Heap.get_ext_old hh4.ok m0 L
 have v1 := fun L => Heap.get_ext_old hh4.ok m1 L
 have vn := fun L => Heap.get_ext_old hh4.ok mn L
 clear hG
 obtain ⟨X, hx, hx2, hx3⟩ := f44_askE D (hh4.ext []) hR (hw4.ext hh4.ok _)
 obtain ⟨_, G5, he, rfl, ⟨lv5, t, ht5, hPt⟩, hnx5⟩ := EC_ex (R := askR kh av t0) hx ⟨rfl, hx2, hx3⟩
 simp only [reqL, opL, List.cons_append, List.nil_append] at he
 have w1 := hnx5.keep _ _ (ne_key hh.ok hh.row 1) (v1 [])
 have wd := hnx5.keep _ _ (Ne.symm nkh) (Heap.get_ext_old hh4.ok md [])
 have wj := hnx5.keep _ _ (Ne.symm njh) (Heap.get_ext_old hh4.ok mj [])
 simp only [zA] at w1
 have s1 : ∀ b (α : Type) (c' : Heap → α), G5.setC (G.key 1) b c' = c' (G5.set (G.key 1) b) := fun b α c' => by
  have := Heap.setC_here ht5.ok w1 b [] c'
  rwa [Heap.ext_nil, Heap.ext_nil] at this
 have k1 : ∀ b, (G5.set (G.key 1) b).get (G.key 1) = some b := fun b => by rw [Heap.get_set, if_pos rfl]
 refine WW.nil ?_
 simp only [go_sem, zA, v0, v1, vn, he, w1, s1, k1]
 have oo : ∀ b, (G5.set (G.key 1) b).ok := fun b => Heap.ok_set ht5.ok w1
 have kp5 : ∀ b, Kp [kd, kj, kh] G (G5.set (G.key 1) b) := fun b => ⟨fun j c hj' hb => by
  rw [Heap.get_set, if_neg fun e => ne_key hh.ok hb 1 e.symm]
  refine hnx5.keep j c (by rintro rfl; simp at hj') ?_
  rw [Heap.ext_nil]
  exact kp4.keep j c hj' hb, Nat.le_trans kp4.le (by rw [Heap.nx_set]; have := hnx5.le; rwa [Heap.ext_nil] at this)⟩
 refine ⟨?_, ?_, ⟨lv5, t, ht5.cell w1 _, hPt⟩, kp5 _⟩
 ·rw [Heap.get_set, if_neg fun e => ne_key hh.ok hd 1 e.symm]; exact wd
 ·rw [Heap.get_set, if_neg fun e => ne_key hh.ok hj 1 e.symm]; exact wj
end
end Go.Proofs
namespace Go.Proofs
open Go Go.Ev
variable {H : Heap}
structure Foreign (b : Blk) : Prop where
 no : ∀ wr e rows, b = .row wr e rows → e ≠ 4 ∧ e ≠ 5 ∧ e ≠ 6
 gn : ∀ wr rows, b = .row wr 2 rows → ∀ r ∈ rows, ∀ g : Gn, r ≠ g.enc
 sh : ∀ wr rows, b = .row wr 8 rows → ∀ r ∈ rows, ∀ s : Sh, r ≠ s.enc
section
variable {G G' : Heap} {ks : List K}
theorem arr_kp {e : Nat} {v : AV} {xs : List (List AV)} (h : Arr G e v xs) (hk : Kp ks G G') (hx : ∀ j ∈ ks, ∀ wr rows, G.get j = some (.row wr e rows) → ∀ r ∈ rows, r ∉ xs) : Arr G' e v xs := by
 rcases h with g | ⟨c, off, ex, cap, hv, hc, g⟩
 ·exact .inl g
 ·refine .inr ⟨c, off, ex, cap, hv, Nat.lt_of_lt_of_le hc hk.le, fun hn => ?_⟩
  obtain ⟨r, wr', rows', h1, h2, h3⟩ := g hn
  refine ⟨r, wr', rows', h1, hk.keep c _ (fun hm => ?_) h2, h3⟩
  cases xs with
  | nil => exact hn rfl
  | cons x xs =>
   have hm2 : x ∈ (rows'.drop r).take (x :: xs).length := by rw [h3]; exact List.mem_cons_self
   exact hx c hm wr' rows' h2 x (List.mem_of_mem_drop (List.mem_of_mem_take hm2)) List.mem_cons_self
theorem isHd.kp {k : K} {lv gv : AV} {hs : List Sh} {gs : List Gn} (h : isHd G k lv gv hs gs) (hk : Kp ks G G') (hok : G'.ok) (hf : ∀ j ∈ ks, j ≠ k ∧ ∀ b, G.get j = some b → Foreign b) : isHd G' k lv gv hs gs := by
 have h3 : ∀ {e : Nat} {v : AV} {xs : List (List AV)}, Arr G e v xs → e = 4 ∨ e = 5 ∨ e = 6 → Arr G' e v xs := fun hA he => arr_kp hA hk fun j hj wr rows hg r hr hm => by
  have := ((hf j hj).2 _ hg).no wr _ rows rfl
  omega
 refine ⟨hok, hk.keep _ _ (fun hm => (hf k hm).1 rfl) h.row, arr_kp h.l hk fun j hj wr rows hg r hr hm => ?_, arr_kp h.g hk fun j hj wr rows hg r hr hm => ?_, fun s hs => ?_, h.small, h.few⟩
 ·obtain ⟨s, _, rfl⟩ := List.mem_map.1 hm
  exact ((hf j hj).2 _ hg).sh wr rows rfl _ hr s rfl
 ·obtain ⟨s, _, rfl⟩ := List.mem_map.1 hm
  exact ((hf j hj).2 _ hg).gn wr rows rfl _ hr s rfl
 ·have hs' := h.each s hs
  exact ⟨h3 hs'.c (by simp), h3 hs'.e (by simp), h3 hs'.d (by simp), bareL.ok (h.small s hs).b _, hs'.cl, hs'.el, hs'.dl⟩
theorem foreign_wide {wr : Bool} {e : Nat} {rows : List (List AV)} (h : 8 < e) : Foreign (.row wr e rows) := by
 refine ⟨fun _ _ _ e => ?_, fun _ _ e => ?_, fun _ _ e => ?_⟩ <;> cases e <;> omega
theorem foreign_node {wr : Bool} {a : AV} {k1 : K} {o1 : Nat} {l : List AV} : Foreign (.row wr 8 [a :: .ptr k1 o1 :: l]) := by
 refine ⟨fun _ _ _ e => ?_, fun _ _ e => ?_, fun _ _ e => ?_⟩ <;> cases e
 ·decide
 ·intro r hr s e
  rw [List.mem_singleton.1 hr] at e
  simp [Sh.enc] at e
theorem Kp.trans {A B C : Heap} (h : Kp ks A B) (g : Kp ks B C) : Kp ks A C := ⟨fun j b hj hb => g.keep j b hj (h.keep j b hj hb), Nat.le_trans h.le g.le⟩
theorem Kp.wk {ks' : List K} {A B : Heap} (h : Kp ks A B) (hs : ∀ j ∈ ks, j ∈ ks') : Kp ks' A B := ⟨fun j b hj hb => h.keep j b (fun hm => hj (hs j hm)) hb, h.le⟩
end
section
variable {G : Heap} {kn kw : K}
theorem appQ_old (hok : G.ok) {n : Nat} {x : List AV} {xs : List (List AV)} (hw : G.get kw = some (.row true 24 (x :: xs))) (hn : xs.length = n) {L : List Blk} {j : Nat} {wr ex : Bool} {cap : Nat} {y : List AV} (hj : L[j]? = some (.row wr 24 [y])) (hN : n < 100000) :
  appQ 24 328 (some (outV kw 24 (n + 1))) (some (.slice (G.key j) 0 1 24 ex cap)) (G.ext L) = .val (.slice ((G.set kw .dead).key L.length) 0 (n + 2) 24 false (n + 2)) ((G.set kw .dead).ext (L ++ [.row true 24 (x :: xs ++ [y])])) := by
 show appR 24 328 (.c _) (.c _) .lf (G.ext L) = _
 subst hn
 have hjl := (List.getElem?_eq_some_iff.1 hj).1
 have hg := Heap.get_ext_old hok hw L
 have hb1 : (2 * ((xs.length + 1) + 1) + 192) * 328 ≤ 281474976710656 := Nat.le_trans (Nat.mul_le_mul_right _ (show _ ≤ 300000 by omega)) (by decide)
 have hs := fun (α : Type) (c : Heap → α) => Heap.setC_here hok hw .dead L c
 unfold appR
 show withX _ (.c (.slice kw 0 (xs.length + 1) 24 false (xs.length + 1))) _ _ = _
 simp only [go_sem, withX, evX, Heap.get_ext_key _ _ _ hjl, hg, hj, List.drop_zero, List.take_succ_cons, List.take_zero, List.length_cons, List.length_nil, Nat.zero_mod, Nat.zero_div, Nat.reduceAdd, Nat.reduceSub, Nat.reduceMul, Nat.reduceDiv, Nat.reduceMod, Nat.reduceEqDiff, Nat.reduceLeDiff, Nat.reduceLT, reduceIte, List.take_length, List.cons_append]
 rw [if_pos (Nat.le_refl _), if_neg (by omega), if_pos hb1, hs, Heap.addC_ext]
 rfl
theorem says_end {D : Heap} {ks : List K} {c : Blk} (hdo : D.ok) (hdk : D.get kn = some c) (hD : Kp ks G D) (hkn : kn ∈ ks) (hks : ∀ j ∈ ks, ∃ b, G.get j = some b) (hGo : G.ok) {L : List Blk} {i : Nat} {r : Blk} (hL : L[i]? = some r) (b : Blk) :
  ((D.set kn b).ext L).get kn = some b ∧ ((D.set kn b).ext L).get (D.key i) = some r ∧ ((D.set kn b).ext L).ok ∧ Kp ks G ((D.set kn b).ext L) ∧ D.key i ∉ ks := by
 have hil := (List.getElem?_eq_some_iff.1 hL).1
 refine ⟨Heap.get_set_here hdo hdk b L, (Heap.get_key_set hil).trans hL, Heap.ok_ext (Heap.ok_set hdo hdk) L, ⟨fun j d hj hd => Heap.get_set_there hdo (hD.keep j d hj hd) (by rintro rfl; exact hj hkn) b L, Nat.le_trans hD.le (by rw [Heap.nx_ext, Heap.toNat_key, Heap.nx_set]; exact Nat.le_add_right _ _)⟩, fun hm => ?_⟩
 obtain ⟨d, hd⟩ := hks _ hm
 have h1 := hGo _ _ hd
 have h2 := hD.le
 rw [Heap.toNat_key] at h1
 omega
theorem f85_more (hok : G.ok) {x0 kd : Int} {d1 d2 d3 x5 x6 x7 : AV} {n : Nat} {x : List AV} {xs : List (List AV)} (hn : G.get kn = some (.row true 8 [[.int .i64 x0, d1, d2, d3, outV kw 24 (n + 1), x5, x6, x7]])) (hw : G.get kw = some (.row true 24 (x :: xs))) (hl : xs.length = n) (hN : n < 100000) (t1 t3 : Int) (t0 t2 t4 t5 t6 t7 t8 t9 t10 t11 t12 t13 t14 t15 t16 t17 t18 t19 t20 t21 t22 t23 l0 l1 l2 l3 l4 l5 l6 l7 l8 l9 l10 l11 l12 l13 l14 l15 l16 l17 l18 l19 l20 l21 l22 l23 : AV) :
  FnOk Tryz.prog 85 [.ptr kn 0, .agg [t0, .int .i64 t1, t2, .int .i64 t3, t4, t5, t6, t7, t8, t9, t10, t11, t12, t13, t14, t15, t16, t17, t18, t19, t20, t21, t22, t23], .int .i64 kd, .agg [l0, l1, l2, l3, l4, l5, l6, l7, l8, l9, l10, l11, l12, l13, l14, l15, l16, l17, l18, l19, l20, l21, l22, l23]] G fun r G' => r = .tup [] ∧ (∃ kw', kw' ∉ [kn, kw] ∧ G'.get kn = some (.row true 8 [[.int .i64 x0, d1, d2, d3, outV kw' 24 (n + 2), x5, x6, x7]]) ∧ G'.get kw' = some (.row true 24 (x :: xs ++ [[.int .i64 kd, .int .i64 x0, .int .i64 t1, .int .i64 t3, l4, l5, l6, l7, l8, l9, l10, l11, l12, l13, l14, l15, l16, l17, l18, l19, l20, l21, l22, l23]]))) ∧ G'.ok ∧ Kp [kn, kw] G G' := by
 refine FnOk.of_WW Tryz.func85 rfl C85ok R85ok E0 good_E0 ?_
 have hn' := fun L => Heap.get_ext_old hok hn L
 have ha : ∀ (L : List Blk) (y : List AV), L[2]? = some (.row true 24 [y]) → appQ 24 328 (some (.slice kw 0 (n + 1) 24 false (n + 1))) (some (.slice (G.key 2) 0 1 24 true 1)) (G.ext L) = .val (.slice ((G.set kw .dead).key L.length) 0 (n + 2) 24 false (n + 2)) ((G.set kw .dead).ext (L ++ [.row true 24 (x :: xs ++ [y])])) := fun L y hj => appQ_old hok hw hl (ex := true) (cap := 1) hj hN
 have hne : kw ≠ kn := by rintro rfl; rw [hw] at hn; cases hn
 have hdk : (G.set kw .dead).get kn = some (.row true 8 [[.int .i64 x0, d1, d2, d3, outV kw 24 (n + 1), x5, x6, x7]]) := by rw [Heap.get_set, if_neg hne]; exact hn
 have hdo : (G.set kw .dead).ok := Heap.ok_set hok hw
 have hn2 := fun L => Heap.get_ext_old hdo hdk L
 have hs2 := fun b (l : List Blk) (α : Type) (c' : Heap → α) => Heap.setC_here hdo hdk b l c'
 simp only [go_sem, ↓appR_hide, C85, hn']
 rw [ha _ _ rfl]
 simp only [go_sem, hn2, hs2]
 have hD : Kp [kn, kw] G (G.set kw .dead) := ⟨fun j d hj hd => by rw [Heap.get_set, if_neg (by rintro rfl; simp at hj)]; exact hd, Nat.le_refl _⟩
 obtain ⟨e1, e2, e3, e4, e5⟩ := says_end hdo hdk hD (by simp) (by intro j hj; simp only [List.mem_cons, List.not_mem_nil, or_false] at hj; rcases hj with rfl | rfl <;> first | exact ⟨_, hn⟩ | exact ⟨_, hw⟩) hok (L := [.row true 24 [[t0, .int .i64 t1, t2, .int .i64 t3, t4, t5, t6, t7, t8, t9, t10, t11, t12, t13, t14, t15, t16, t17, t18, t19, t20, t21, t22, t23]], .row true 24 [[.int .i64 kd, .int .i64 x0, .int .i64 t1, .int .i64 t3, l4, l5, l6, l7, l8, l9, l10, l11, l12, l13, l14, l15, l16, l17, l18, l19, l20, l21, l22, l23]], .row true 24 [[.int .i64 kd, .int .i64 x0, .int .i64 t1, .int .i64 t3, l4, l5, l6, l7, l8, l9, l10, l11, l12, l13, l14, l15, l16, l17, l18, l19, l20, l21, l22, l23]], .row true 24 (x :: (xs ++ [[.int .i64 kd, .int .i64 x0, .int .i64 t1, .int .i64 t3, l4, l5, l6, l7, l8, l9, l10, l11, l12, l13, l14, l15, l16, l17, l18, l19, l20, l21, l22, l23]]))]) (i := 3) rfl (.row true 8 [[.int .i64 x0, d1, d2, d3, .slice (G.key 3) 0 (n + 2) 24 false (n + 2), x5, x6, x7]])
 exact ⟨⟨_, e5, e1, e2⟩, e3, e4⟩
theorem f85_first (hok : G.ok) {x0 kd : Int} {d1 d2 d3 x5 x6 x7 : AV} (hn : G.get kn = some (.row true 8 [[.int .i64 x0, d1, d2, d3, .nils, x5, x6, x7]])) (t1 t3 : Int) (t0 t2 t4 t5 t6 t7 t8 t9 t10 t11 t12 t13 t14 t15 t16 t17 t18 t19 t20 t21 t22 t23 l0 l1 l2 l3 l4 l5 l6 l7 l8 l9 l10 l11 l12 l13 l14 l15 l16 l17 l18 l19 l20 l21 l22 l23 : AV) :
  FnOk Tryz.prog 85 [.ptr kn 0, .agg [t0, .int .i64 t1, t2, .int .i64 t3, t4, t5, t6, t7, t8, t9, t10, t11, t12, t13, t14, t15, t16, t17, t18, t19, t20, t21, t22, t23], .int .i64 kd, .agg [l0, l1, l2, l3, l4, l5, l6, l7, l8, l9, l10, l11, l12, l13, l14, l15, l16, l17, l18, l19, l20, l21, l22, l23]] G fun r G' => r = .tup [] ∧ (∃ kw', kw' ∉ [kn] ∧ G'.get kn = some (.row true 8 [[.int .i64 x0, d1, d2, d3, outV kw' 24 1, x5, x6, x7]]) ∧ G'.get kw' = some (.row true 24 [[.int .i64 kd, .int .i64 x0, .int .i64 t1, .int .i64 t3, l4, l5, l6, l7, l8, l9, l10, l11, l12, l13, l14, l15, l16, l17, l18, l19, l20, l21, l22, l23]])) ∧ G'.ok ∧ Kp [kn] G G' := by
 refine FnOk.of_WW Tryz.func85 rfl C85ok R85ok E0 good_E0 ?_
 have hn' := fun L => Heap.get_ext_old hok hn L
 have hs2 := fun b (l : List Blk) (α : Type) (c' : Heap → α) => Heap.setC_here hok hn b l c'
 simp only [go_sem, C85, hn', hs2]
 obtain ⟨e1, e2, e3, e4, e5⟩ := says_end (ks := [kn]) hok hn ⟨fun j d hj hd => hd, Nat.le_refl _⟩ (by simp) (by intro j hj; rw [List.mem_singleton.1 hj]; exact ⟨_, hn⟩) hok (L := [.row true 24 [[t0, .int .i64 t1, t2, .int .i64 t3, t4, t5, t6, t7, t8, t9, t10, t11, t12, t13, t14, t15, t16, t17, t18, t19, t20, t21, t22, t23]], .row true 24 [[.int .i64 kd, .int .i64 x0, .int .i64 t1, .int .i64 t3, l4, l5, l6, l7, l8, l9, l10, l11, l12, l13, l14, l15, l16, l17, l18, l19, l20, l21, l22, l23]], .row true 24 [[.int .i64 kd, .int .i64 x0, .int .i64 t1, .int .i64 t3, l4, l5, l6, l7, l8, l9, l10, l11, l12, l13, l14, l15, l16, l17, l18, l19, l20, l21, l22, l23]], .row true 24 [[.int .i64 kd, .int .i64 x0, .int .i64 t1, .int .i64 t3, l4, l5, l6, l7, l8, l9, l10, l11, l12, l13, l14, l15, l16, l17, l18, l19, l20, l21, l22, l23]]]) (i := 3) rfl (.row true 8 [[.int .i64 x0, d1, d2, d3, .slice (G.key 3) 0 1 24 false 1, x5, x6, x7]])
 exact ⟨⟨_, e5, e1, e2⟩, e3, e4⟩
end
end Go.Proofs
namespace Go.Proofs
open Go Go.Ev
variable {H : Heap}
def isWt (G : Heap) (wv : AV) (ws : List (List AV)) : Prop := (ws = [] ∧ wv = .nils) ∨ ∃ kw, ws ≠ [] ∧ wv = outV kw 24 ws.length ∧ G.get kw = some (.row true 24 ws)
def wk : AV → List K
 | .slice k _ _ _ _ _ => [k]
 | _ => []
section
variable {G : Heap} {kn : K}
theorem f85_ok (hok : G.ok) {x0 kd : Int} {d1 d2 d3 wv x5 x6 x7 : AV} {ws : List (List AV)} (hn : G.get kn = some (.row true 8 [[.int .i64 x0, d1, d2, d3, wv, x5, x6, x7]])) (hw : isWt G wv ws) (hN : ws.length < 100000) (t1 t3 : Int) (t0 t2 t4 t5 t6 t7 t8 t9 t10 t11 t12 t13 t14 t15 t16 t17 t18 t19 t20 t21 t22 t23 l0 l1 l2 l3 l4 l5 l6 l7 l8 l9 l10 l11 l12 l13 l14 l15 l16 l17 l18 l19 l20 l21 l22 l23 : AV) :
  FnOk Tryz.prog 85 [.ptr kn 0, .agg [t0, .int .i64 t1, t2, .int .i64 t3, t4, t5, t6, t7, t8, t9, t10, t11, t12, t13, t14, t15, t16, t17, t18, t19, t20, t21, t22, t23], .int .i64 kd, .agg [l0, l1, l2, l3, l4, l5, l6, l7, l8, l9, l10, l11, l12, l13, l14, l15, l16, l17, l18, l19, l20, l21, l22, l23]] G fun r G' => r = .tup [] ∧ (∃ wv', G'.get kn = some (.row true 8 [[.int .i64 x0, d1, d2, d3, wv', x5, x6, x7]]) ∧ isWt G' wv' (ws ++ [[.int .i64 kd, .int .i64 x0, .int .i64 t1, .int .i64 t3, l4, l5, l6, l7, l8, l9, l10, l11, l12, l13, l14, l15, l16, l17, l18, l19, l20, l21, l22, l23]])) ∧ G'.ok ∧ Kp (kn :: wk wv) G G' := by
 rcases hw with ⟨rfl, rfl⟩ | ⟨kw, hne, rfl, hw⟩
 ·refine (f85_first hok hn t1 t3 t0 t2 t4 t5 t6 t7 t8 t9 t10 t11 t12 t13 t14 t15 t16 t17 t18 t19 t20 t21 t22 t23 l0 l1 l2 l3 l4 l5 l6 l7 l8 l9 l10 l11 l12 l13 l14 l15 l16 l17 l18 l19 l20 l21 l22 l23).mono ?_
  rintro r G' ⟨rfl, ⟨kw', _, h1, h2⟩, h3, h4⟩
  exact ⟨rfl, ⟨_, h1, .inr ⟨kw', by simp, rfl, h2⟩⟩, h3, h4⟩
 ·obtain ⟨x, xs, rfl⟩ : ∃ x xs, ws = x :: xs := by
   cases ws with
   | nil => exact absurd rfl hne
   | cons x xs => exact ⟨x, xs, rfl⟩
  refine (f85_more hok hn hw rfl (by simp at hN; omega) t1 t3 t0 t2 t4 t5 t6 t7 t8 t9 t10 t11 t12 t13 t14 t15 t16 t17 t18 t19 t20 t21 t22 t23 l0 l1 l2 l3 l4 l5 l6 l7 l8 l9 l10 l11 l12 l13 l14 l15 l16 l17 l18 l19 l20 l21 l22 l23).mono ?_
  rintro r G' ⟨rfl, ⟨kw', _, h1, h2⟩, h3, h4⟩
  refine ⟨rfl, ⟨_, h1, .inr ⟨kw', by simp, ?_, h2⟩⟩, h3, h4⟩
  simp only [List.length_append, List.length_cons, List.length_nil]
theorem Kp.ext {ks : List K} (hok : G.ok) (L : List Blk) : Kp ks G (G.ext L) := ⟨fun j b _ hb => Heap.get_ext_old hok hb L, by rw [Heap.nx_ext, Heap.toNat_key]; exact Nat.le_add_right _ _⟩
theorem f81_none (hok : G.ok) {x0 : Int} {d1 d2 d3 wv x5 x6 x7 : AV} {ws : List (List AV)} (hn : G.get kn = some (.row true 8 [[.int .i64 x0, d1, d2, d3, wv, x5, x6, x7]])) (hw : isWt G wv ws) (hN : ws.length < 100000) (t1 t3 : Int) (t0 t2 t4 t5 t6 t7 t8 t9 t10 t11 t12 t13 t14 t15 t16 t17 t18 t19 t20 t21 t22 t23 a0 a1 a2 a3 : AV) :
  FnOk Tryz.prog 81 [.ptr kn 0, .agg [t0, .int .i64 t1, t2, .int .i64 t3, t4, t5, t6, t7, t8, t9, t10, t11, t12, t13, t14, t15, t16, t17, t18, t19, t20, t21, t22, t23], .agg [a0, a1, a2, a3], .nili] G fun r G' => r = .tup [] ∧ (∃ wv', G'.get kn = some (.row true 8 [[.int .i64 x0, d1, d2, d3, wv', x5, x6, x7]]) ∧ isWt G' wv' (ws ++ [[.int .i64 2, .int .i64 x0, .int .i64 t1, .int .i64 t3, .int .i64 0, .int .i64 0, .int .i64 0, .int .i64 0, .int .i64 0, .str [], .str [], .str [], .int .i64 0, .nils, a0, a1, a2, a3, .str [], .str [], .nils, .nils, .nils, .str []]])) ∧ G'.ok ∧ Kp (kn :: wk wv) G G' := by
 refine FnOk.of_WW Tryz.func81 rfl C81ok R81ok E0 good_E0 ?_
 simp only [go_sem, C81]
 refine CL.of (f65_ok none 17) ?_
 rintro _ G' ⟨rfl, hG⟩; rw [hG]; clear hG
 have hw' : ∀ L, isWt (G.ext L) wv ws := fun L => by
  rcases hw with h | ⟨kw, h1, h2, h3⟩
  ·exact .inl h
  ·exact .inr ⟨kw, h1, h2, Heap.get_ext_old hok h3 L⟩
 simp only [go_sem]
 refine CL.of (f85_ok (Heap.ok_ext hok _) (Heap.get_ext_old hok hn _) (hw' _) hN t1 t3 _ _ _ _ _ _ _ _ _ _ _ _ _ _ _ _ _ _ _ _ _ _ _ _ _ _ _ _ _ _ _ _ _ _ _ _ _ _ _ _ _ _ _ _ _ _) ?_
 rintro _ G' ⟨rfl, h1, h2, h3⟩
 simp only [go_sem]
 exact ⟨h1, h2, (Kp.ext hok _).trans h3⟩
end
structure isNd (G : Heap) (kn kd kj kh : K) (bs : List Nat) (n m : Nat) (ws : List (List AV)) (x5 x6 x7 : AV) (s : Sh) : Prop where
 ok : G.ok
 row : ∃ wv, G.get kn = some (.row true 8 [[.int .i64 0, .ptr kd 0, .ptr kj 0, .ptr kh 0, wv, x5, x6, x7]]) ∧ isWt G wv ws
 disk : G.get kd = some (.row true 2 [[.str bs, .int .i64 n]])
 jour : G.get kj = some (.row true 2 [[.ptr kd 0, .int .i64 m]])
 hold : ∃ lv, isHd G kh lv .nils [s] []
section
variable {G : Heap} {kn kd kj kh : K}
end
end Go.Proofs
namespace Go.Proofs
open Go Go.Ev
noncomputable def mapB {β : Type} (b : Blk) (f : β) (c : List (AV × AV) → β) : β := Blk.rec (motive := fun _ => β) f (fun _ _ _ => f) c b
@[go_sem] theorem mapB_map {β : Type} (es : List (AV × AV)) (f : β) (c : List (AV × AV) → β) : mapB (.map es) f c = c es := rfl
@[go_sem] theorem mapC_opt {β : Type} (H : Heap) (k : K) (f : β) (c : List (AV × AV) → β) : mapC H k f c = optC (H.get k) f fun b => mapB b f c := rfl
@[go_sem] theorem mpC_nil {β : Type} (lk : LK) (k v : AV) (f : β) (c : List (AV × AV) → β) : mpC lk k v f [] c = c [(k, v)] := rfl
@[go_sem] theorem mpC_int {β : Type} (a b : Int) (v x : AV) (f : β) (es : List (AV × AV)) (c : List (AV × AV) → β) : mpC .int (.int .i64 a) v f ((.int .i64 b, x) :: es) c = if a = b then c ((.int .i64 a, v) :: es) else mpC .int (.int .i64 a) v f es fun r => c ((.int .i64 b, x) :: r) := by
 show bif' (Nat.beq (Ev.kn .i64) (Ev.kn .i64)) (eqI a b fun z => bif' z (c ((.int .i64 a, v) :: es)) (mpC .int (.int .i64 a) v f es fun r => c ((.int .i64 b, x) :: r))) f = _
 rw [show Nat.beq (Ev.kn .i64) (Ev.kn .i64) = true from rfl, bif_true, eqI_eq, bif_dec]
@[go_sem] theorem mfC_nil {β : Type} (lk : LK) (k : AV) (f : β) (c : Option AV → β) : mfC lk k [] f c = c none := rfl
@[go_sem] theorem mfC_int {β : Type} (a b : Int) (x : AV) (f : β) (es : List (AV × AV)) (c : Option AV → β) : mfC .int (.int .i64 a) ((.int .i64 b, x) :: es) f c = if a = b then c (some x) else mfC .int (.int .i64 a) es f c := by
 show bif' (Nat.beq (Ev.kn .i64) (Ev.kn .i64)) (eqI a b fun z => bif' z (c (some x)) (mfC .int (.int .i64 a) es f c)) f = _
 rw [show Nat.beq (Ev.kn .i64) (Ev.kn .i64) = true from rfl, bif_true, eqI_eq, bif_dec]
@[go_sem] theorem mlEnd_some (z v : AV) (H : Heap) : mlEnd false z H (some v) = .val v H := rfl
@[go_sem] theorem mlEnd_none (z : AV) (H : Heap) : mlEnd false z H none = .val z H := rfl
@[go_sem] theorem mlEnd_some2 (z v : AV) (H : Heap) : mlEnd true z H (some v) = .val (.tup [v, .bool true]) H := rfl
@[go_sem] theorem mlEnd_none2 (z : AV) (H : Heap) : mlEnd true z H none = .val (.tup [z, .bool false]) H := rfl
@[go_sem] theorem lk3 : lkOf Tryz.prog 3 = .int := by kernel_rfl
attribute [go_sem] mkmR mupR mlkR mkfR
@[go_sem] theorem fn_neq {β : Type} (fn : Fn) (l m : List AV) (f : β) (c : AV → β) : binV Tryz.prog EK.func none true BinOp.neq (.fn fn l m) .nilf f c = c (.bool true) := rfl
theorem clo40 : CloFn Tryz.prog 37 2 24 [.str [], .int .i64 0] := ⟨⟨Tryz.f37, Tryz.func37, by kernel_rfl, by kernel_rfl⟩, rfl, by decide⟩
section
variable {G : Heap} {kn kd kj kh : K}
theorem isWt.ext {wv : AV} {ws : List (List AV)} (h : isWt G wv ws) (hok : G.ok) (L : List Blk) : isWt (G.ext L) wv ws := by
 rcases h with h | ⟨kw, h1, h2, h3⟩
 ·exact .inl h
 ·exact .inr ⟨kw, h1, h2, Heap.get_ext_old hok h3 L⟩
theorem isNd.ext {x5 x6 x7 : AV} {bs : List Nat} {n m : Nat} {ws : List (List AV)} {s : Sh} (h : isNd G kn kd kj kh bs n m ws x5 x6 x7 s) (L : List Blk) : isNd (G.ext L) kn kd kj kh bs n m ws x5 x6 x7 s := by
 obtain ⟨wv, h1, h2⟩ := h.row
 obtain ⟨lv, h3⟩ := h.hold
 exact ⟨Heap.ok_ext h.ok L, ⟨wv, Heap.get_ext_old h.ok h1 L, h2.ext h.ok L⟩, Heap.get_ext_old h.ok h.disk L, Heap.get_ext_old h.ok h.jour L, ⟨lv, h3.ext L⟩⟩
end
end Go.Proofs
namespace Go.Proofs
open Go Go.Ev
def okn : Blk → Prop
 | .row _ w rows => w ≠ 2 ∧ w ≠ 24 ∧ (w = 8 → ∀ r ∈ rows, ∃ s : Sh, r = s.enc)
 | _ => False
def KO (G G' : Heap) : Prop := ∀ j b, G.get j = some b → okn b → G'.get j = some b
theorem KO.trans {A B C : Heap} (h : KO A B) (g : KO B C) : KO A C := fun j b hb ho => g j b (h j b hb ho) ho
theorem KO.ext {A : Heap} (hok : A.ok) (L : List Blk) : KO A (A.ext L) := fun j b hb _ => Heap.get_ext_old hok hb L
theorem KO.kp {A B : Heap} {ks : List K} (h : Kp ks A B) (hk : ∀ j ∈ ks, ∀ b, A.get j = some b → ¬ okn b) : KO A B := fun j b hb ho => h.keep j b (fun hm => hk j hm b hb ho) hb
theorem KO.wt {A B : Heap} {kn : K} {wv a x5 x6 x7 : AV} {k1 k2 k3 : K} {ws : List (List AV)} (hn : A.get kn = some (.row true 8 [[a, .ptr k1 0, .ptr k2 0, .ptr k3 0, wv, x5, x6, x7]])) (hw : isWt A wv ws) (h : Kp (kn :: wk wv) A B) : KO A B := KO.kp h fun j hj b hb ho => by
 rcases List.mem_cons.1 hj with rfl | hj
 ·rw [hn] at hb; cases hb
  obtain ⟨s, e⟩ := ho.2.2 rfl _ List.mem_cons_self
  simp [Sh.enc] at e
 ·rcases hw with ⟨_, rfl⟩ | ⟨kw, a1, rfl, a3⟩
  ·cases hj
  ·cases ws with
   | nil => cases hj
   | cons w ws =>
    rw [List.mem_singleton.1 hj, a3] at hb; cases hb; exact ho.2.1 rfl
section
variable {G : Heap} {kn kd kj kh : K} {s t0 s0 : Sh} {kd0 n0 av : Int} {ses id : Nat} {key to val fk : List Nat} {wv : AV} {w : Option (K × List (List AV))}
def letL (ses id : Nat) (o : List AV) : List AV := [.int .i64 1, .int .i64 (200 + (ses : Int)), .int .i64 0, .int .i64 id, .int .i64 0, .int .i64 0, .int .i64 0, .int .i64 0] ++ (o ++ [.int .i64 0, .str [], .int .i64 0, .nils, .str [], .str [], .nils, .nils, .nils, .str []])
def saidL (ses id : Nat) (a : List AV) : List AV := [.int .i64 2, .int .i64 0, .int .i64 (200 + (ses : Int)), .int .i64 id, .int .i64 0, .int .i64 0, .int .i64 0, .int .i64 0, .int .i64 0, .str [], .str [], .str [], .int .i64 0, .nils] ++ (a ++ [.str [], .str [], .nils, .nils, .nils, .str []])
theorem f28_ask (D : Does ses id kd0 key to val n0 wv w fk s0 t0 av) {x5 x6 x7 : AV} {bs T : List Nat} {n m : Nat} {ws : List (List AV)} (h : isNd G kn kd kj kh bs n m ws x5 x6 x7 s) (hR : Rel s s0) (hw : okW w G) (hse : ses < 3) (hid : 1 ≤ id) (hid2 : id < 1000)
  (hB : ∀ J : Heap, J.ok → okW w J → FnOk Tryz.prog 54 [.agg (reqL ses id (opL kd0 key to val n0 wv))] J fun r J' => r = .str T ∧ J' = J) (hT : T ≠ []) (hTl : T.length < 1000000) (hl : bs.length + (wrapT T).length ≤ 200000) (hnl : n ≤ bs.length) (hm : m < 1000000) (hN : ws.length < 100000) :
  FnOk Tryz.prog 28 [.ptr kn 0, .agg (letL ses id (opL kd0 key to val n0 wv))] G fun r G' => r = .tup [] ∧ ∃ t, isNd G' kn kd kj kh (bs ++ wrapT T) (n + (wrapT T).length) (m + 1) (ws ++ [saidL ses id [.int .i64 0, .str [], .int .i64 av, .nils]]) x5 x6 x7 t ∧ Rel t t0 ∧ KO G G' := by
 obtain ⟨wts, hn, hw0⟩ := h.row
 obtain ⟨lv, hh⟩ := h.hold
 obtain ⟨lt, hlt⟩ : ∃ lt, lt = letL ses id (opL kd0 key to val n0 wv) := ⟨_, rfl⟩
 have fk1 := D.fkey (G.ext [.row true 24 [letL ses id (opL kd0 key to val n0 wv)], .row true 8 [zS]]) (Heap.ok_ext h.ok _) (hw.ext h.ok _)
 obtain ⟨E, hE, e1, e2⟩ := two_calls (P := Tryz.prog) (f := 80) (g := 79) (by decide) fk1 (f79_yes (hh.ext [.row true 24 [letL ses id (opL kd0 key to val n0 wv)], .row true 8 [zS]]) fk (i := 0) (idx_one (hR.find D.find)) rfl)
 simp only [letL, opL, List.cons_append, List.nil_append, zS, Heap.key_ext, List.length_cons, List.length_nil, Nat.zero_add, Nat.reduceAdd] at e1 e2
 refine FnOk.of_WW Tryz.func28 rfl C28ok R28ok E hE ?_
 have hn' := fun L => Heap.get_ext_old h.ok hn L
 have hz : IntKind.i64.wrap (200 + (ses : Int) - 200) = (ses : Int) := by rw [wrap_i64 (by omega) (by omega)]; omega
 have z0 : ((ses : Int) < 0) = False := eq_false (by omega)
 have z1 : ((id : Int) < 1) = False := eq_false (by omega)
 simp only [go_sem, C28, letL, opL, List.cons_append, List.nil_append, hn', hz, z0, z1, e1, e2, Sh.cop, Sh.enc, copB, Heap.key_ext]
 have hso := hh.each s (by simp)
 obtain ⟨y, L, hx, -, -⟩ := D.does (G.ext [.row true 24 [letL ses id (opL kd0 key to val n0 wv)], .row true 8 [(s.cop (G.key 2) (G.key 3) (G.key 4)).enc], zB (nilB s.cv) 5 (s.cells.map Cell.enc), zB (nilB s.ev) 4 (s.evs.map Evn.enc), zB (nilB s.dv) 6 (s.done.map Dn.enc)]) (s.cop (G.key 2) (G.key 3) (G.key 4)) _ (Heap.ok_ext h.ok _) (Sh.cop_ok hso rfl rfl rfl) (hR.cop _ _ _) (hR.evV _ _ _) (hw.ext h.ok _)
 obtain ⟨M, hM⟩ : ∃ M, M = (G.ext [.row true 24 [letL ses id (opL kd0 key to val n0 wv)], .row true 8 [(s.cop (G.key 2) (G.key 3) (G.key 4)).enc], zB (nilB s.cv) 5 (s.cells.map Cell.enc), zB (nilB s.ev) 4 (s.evs.map Evn.enc), zB (nilB s.dv) 6 (s.done.map Dn.enc)]).ext L := ⟨_, rfl⟩
 rw [← hM] at hx
 simp only [letL, opL, List.cons_append, List.nil_append, Sh.cop, Sh.enc] at hx
 refine CL.of hx ?_
 rintro _ G' ⟨rfl, hG⟩; rw [hG]; clear hG hx
 have hMok : M.ok := by rw [hM]; exact Heap.ok_ext (Heap.ok_ext h.ok _) _
 have hMk : ∀ j b, G.get j = some b → M.get j = some b := fun j b hb => by rw [hM, Heap.ext_append]; exact Heap.get_ext_old h.ok hb _
 have e0 := get_of_ext hM (i := 0) rfl
 simp only [letL, opL, List.cons_append, List.nil_append] at e0
 have hhM : isHd M kh lv .nils [s] [] := by rw [hM]; exact (hh.ext _).ext _
 have hwM : okW w M := by rw [hM]; exact (hw.ext h.ok _).ext (Heap.ok_ext h.ok _) _
 have g0 := fun L => Heap.get_ext_old hMok e0 L
 have gn := fun L => Heap.get_ext_old hMok (hMk _ _ hn) L
 refine WW.nil ?_
 simp only [go_sem, Sh.enc, g0, gn]
 have hwr := fun H ho hw => D.wri H ho hw
 simp only [opL] at hwr
 refine CL.of (hwr _ (Heap.ok_ext hMok _) (hwM.ext hMok _)) ?_
 rintro _ G' ⟨rfl, hG⟩; rw [hG]; clear hG
 simp only [go_sem, g0, gn]
 have e28 := fun L => f25_ask D (Heap.get_ext_old hMok (hMk _ _ hn) L) (Heap.get_ext_old hMok (hMk _ _ h.disk) L) (Heap.get_ext_old hMok (hMk _ _ h.jour) L) (hhM.ext L) hR (hwM.ext hMok L) hB hT hTl hl hnl hm
 simp only [reqL, opL, List.cons_append, List.nil_append] at e28
 refine CL.of (e28 _) ?_
 rintro _ G' ⟨rfl, hd1, hj1, ⟨lv1, t, hh1, hPt⟩, kp1⟩
 obtain ⟨G1, hG1⟩ : ∃ G1, G1 = G' := ⟨_, rfl⟩
 rw [← hG1] at hd1 hj1 hh1 kp1 ⊢
 clear hG1
 have hno : ∀ {j b}, M.get j = some b → (∀ {wr rows}, b ≠ .row wr 2 rows) → j ∉ [kd, kj, kh] := fun {j b} hb hne hm => by
  simp only [List.mem_cons, List.not_mem_nil, or_false] at hm
  rcases hm with rfl | rfl | rfl
  ·rw [hMk _ _ h.disk] at hb; cases hb; exact hne rfl
  ·rw [hMk _ _ h.jour] at hb; cases hb; exact hne rfl
  ·rw [hhM.row] at hb; cases hb; exact hne rfl
 have hk1 : M.key 1 ∉ [kd, kj, kh] := fun hm => by
  simp only [List.mem_cons, List.not_mem_nil, or_false] at hm
  rcases hm with e | e | e
  ·exact ne_key hMok (hMk _ _ h.disk) 1 e.symm
  ·exact ne_key hMok (hMk _ _ h.jour) 1 e.symm
  ·exact ne_key hMok hhM.row 1 e.symm
 have w1 := kp1.keep (M.key 1) _ hk1 (get_lit rfl)
 have w0 := kp1.keep (G.key 0) _ (hno e0 (by simp)) (g0 _)
 have wn := kp1.keep kn _ (hno (hMk _ _ hn) (by simp)) (gn _)
 have wx := fun L => Heap.get_ext_old hh1.ok w1 L
 have s1 := fun b (l : List Blk) (α : Type) (c' : Heap → α) => Heap.setC_here hh1.ok w1 b l c'
 have k1 := fun b (l : List Blk) => Heap.get_set_here hh1.ok w1 b l
 have k0 := fun b (l : List Blk) => Heap.get_set_there hh1.ok w0 (ne_key hMok e0 1).symm b l
 have kn' := fun b (l : List Blk) => Heap.get_set_there hh1.ok wn (ne_key hMok (hMk _ _ hn) 1).symm b l
 refine WW.nil ?_
 simp only [go_sem, wx, s1, k1, k0, kn']
 have o2 : ∀ b l, ((G1.set (M.key 1) b).ext l).ok := fun b l => Heap.ok_ext (Heap.ok_set hh1.ok w1) l
 have hw1 : ∀ b l, isWt ((G1.set (M.key 1) b).ext l) wts ws := fun b l => by
  rcases hw0 with e | ⟨kw, a1, a2, a3⟩
  ·exact .inl e
  ·exact .inr ⟨kw, a1, a2, Heap.get_set_there hh1.ok (kp1.keep _ _ (hno (hMk _ _ a3) (by simp)) (Heap.get_ext_old hMok (hMk _ _ a3) _)) (ne_key hMok (hMk _ _ a3) 1).symm b l⟩
 refine CL.of (f81_none (o2 _ _) (kn' _ _) (hw1 _ _) hN (200 + (ses : Int)) id _ _ _ _ _ _ _ _ _ _ _ _ _ _ _ _ _ _ _ _ _ _ _ _ _ _) ?_
 rintro _ G' ⟨rfl, ⟨wv', h1, h2⟩, h3, h4⟩
 simp only [go_sem]
 have hnw : ∀ {j x}, G.get j = some (.row true 2 [x]) → j ∉ kn :: wk wts := fun {j x} hb hm => by
  rcases List.mem_cons.1 hm with rfl | hm
  ·rw [hn] at hb; cases hb
  ·rcases hw0 with ⟨_, rfl⟩ | ⟨kw, a1, rfl, a3⟩
   ·cases hm
   ·cases ws with
    | nil => cases hm
    | cons w ws =>
     rw [List.mem_singleton.1 hm, a3] at hb; cases hb
 have hd2 := h4.keep _ _ (hnw h.disk) (Heap.get_set_there hh1.ok hd1 (ne_key hMok (hMk _ _ h.disk) 1).symm _ _)
 have hj2 := h4.keep _ _ (hnw h.jour) (Heap.get_set_there hh1.ok hj1 (ne_key hMok (hMk _ _ h.jour) 1).symm _ _)
 have hh2 := ((hh1.cell w1 _).ext []).kp h4 h3 fun j hm => by
  refine ⟨fun e => hnw hh.row (e ▸ hm), fun b hb => ?_⟩
  rcases List.mem_cons.1 hm with rfl | hm
  ·rw [kn'] at hb; cases hb; exact foreign_node
  ·have hw2 := hw1 (.row true 4 [[.int .i64 0, .str [], .int .i64 av, .nils]]) []
   rcases hw2 with ⟨_, rfl⟩ | ⟨kw, a1, rfl, a3⟩
   ·cases hm
   ·cases ws with
    | nil => cases hm
    | cons w ws =>
     rw [List.mem_singleton.1 hm, a3] at hb; cases hb; exact foreign_wide (by decide)
 have ko1 : ∀ j b, M.get j = some b → okn b → G1.get j = some b := fun j b hb ho => kp1.keep j b (fun hj => by
  simp only [List.mem_cons, List.not_mem_nil, or_false] at hj
  rcases hj with rfl | rfl | rfl
  ·rw [hMk _ _ h.disk] at hb; cases hb; exact ho.1 rfl
  ·rw [hMk _ _ h.jour] at hb; cases hb; exact ho.1 rfl
  ·rw [hhM.row] at hb; cases hb; exact ho.1 rfl) (Heap.get_ext_old hMok hb _)
 have ko2 : KO G G' := fun j b hb ho => (KO.wt (kn' _ _) (hw1 _ _) h4) j b (Heap.get_set_there hh1.ok (ko1 j b (hMk j b hb) ho) (ne_key hMok (hMk j b hb) 1).symm _ _) ho
 exact ⟨t, ⟨h3, ⟨wv', h1, h2⟩, hd2, hj2, ⟨_, hh2⟩⟩, hPt, ko2⟩
theorem f7_ask (D : Does ses id kd0 key to val n0 wv w fk s0 t0 av) {x5 x6 x7 : AV} {bs T : List Nat} {n m : Nat} {ws : List (List AV)} (h : isNd G kn kd kj kh bs n m ws x5 x6 x7 s) (hR : Rel s s0) (hw : okW w G) (hse : ses < 3) (hid : 1 ≤ id) (hid2 : id < 1000)
  (hL : ∀ J : Heap, J.ok → okW w J → FnOk Tryz.prog 27 [.agg (letL ses id (opL kd0 key to val n0 wv))] J fun r J' => r = .bool true ∧ J' = J)
  (hB : ∀ J : Heap, J.ok → okW w J → FnOk Tryz.prog 54 [.agg (reqL ses id (opL kd0 key to val n0 wv))] J fun r J' => r = .str T ∧ J' = J) (hT : T ≠ []) (hTl : T.length < 1000000) (hl : bs.length + (wrapT T).length ≤ 200000) (hnl : n ≤ bs.length) (hm : m < 1000000) (hN : ws.length < 100000) :
  FnOk Tryz.prog 7 [.ptr kn 0, .agg (letL ses id (opL kd0 key to val n0 wv))] G fun r G' => r = .tup [] ∧ ∃ t, isNd G' kn kd kj kh (bs ++ wrapT T) (n + (wrapT T).length) (m + 1) (ws ++ [saidL ses id [.int .i64 0, .str [], .int .i64 av, .nils]]) x5 x6 x7 t ∧ Rel t t0 ∧ KO G G' := by
 obtain ⟨wts, hn, hw0⟩ := h.row
 have e := hL (G.ext [.row true 24 [letL ses id (opL kd0 key to val n0 wv)]]) (Heap.ok_ext h.ok _) (hw.ext h.ok _)
 obtain ⟨E, hE, he⟩ := one_call e
 simp only [letL, opL, List.cons_append, List.nil_append] at he
 refine FnOk.of_WW Tryz.func7 rfl C7ok R7ok E hE ?_
 have hn' := fun L => Heap.get_ext_old h.ok hn L
 simp only [go_sem, C7, letL, opL, List.cons_append, List.nil_append, hn', he]
 refine CL.of (clone_nil clo40) ?_
 rintro _ G' ⟨rfl, hG⟩; rw [hG]; clear hG
 simp only [go_sem]
 have e31 := fun L => f28_ask D (h.ext L) hR (hw.ext h.ok L) hse hid hid2 hB hT hTl hl hnl hm hN
 simp only [letL, opL, List.cons_append, List.nil_append] at e31
 refine CL.of (e31 _) ?_
 rintro _ G' ⟨rfl, t, hp1, hp2, hp3⟩
 simp only [go_sem]
 exact ⟨t, hp1, hp2, (KO.ext h.ok _).trans hp3⟩
end
end Go.Proofs
namespace Go.Proofs
open Go Go.Ev
section
variable {G : Heap} {kn kd kj kh : K}
theorem isHd.set8 {lv gv : AV} {k : K} {hs : List Sh} {gs : List Gn} (h : isHd G k lv gv hs gs) {j : K} {c : Blk} (hj : G.get j = some c) (hc : Foreign c) (hne : j ≠ k) (b : Blk) : isHd (G.set j b) k lv gv hs gs :=
 h.kp (ks := [j]) ⟨fun i d hi hd => by rw [Heap.get_set, if_neg (by rintro rfl; simp at hi)]; exact hd, Nat.le_refl _⟩ (Heap.ok_set h.ok hj) fun i hi => by
  rw [List.mem_singleton.1 hi]
  exact ⟨hne, fun b hb => by rw [hj] at hb; cases hb; exact hc⟩
theorem f10_ok {x5 x6 x7 : AV} {bs : List Nat} {n m : Nat} {ws : List (List AV)} {s : Sh} (h : isNd G kn kd kj kh bs n m ws x5 x6 x7 s) : FnOk Tryz.prog 10 [.ptr kn 0] G fun r G' => isWt G' r ws ∧ isNd G' kn kd kj kh bs 0 m [] x5 x6 x7 s ∧ Kp [kn, kd] G G' := by
 obtain ⟨wv, hn, hw⟩ := h.row
 obtain ⟨lv, hh⟩ := h.hold
 refine FnOk.of_WW Tryz.func10 rfl C10ok R10ok E0 good_E0 ?_
 have hn' := fun L => Heap.get_ext_old h.ok hn L
 simp only [go_sem, C10, hn']
 refine CL.of (f26_ok (Heap.get_ext_old h.ok h.jour _) (Heap.get_ext_old h.ok h.disk _)) ?_
 rintro _ D ⟨rfl, hD⟩
 rw [Heap.set_ext_old _ _ _ _ (h.ok _ _ h.disk)] at hD
 rw [Heap.ext_nil] at hD
 have nkn : kd ≠ kn := by have := h.disk; rintro rfl; rw [hn] at this; cases this
 have nkj : kd ≠ kj := by have := h.disk; rintro rfl; rw [h.jour] at this; cases this
 have nkh : kd ≠ kh := by have := h.disk; rintro rfl; rw [hh.row] at this; cases this
 have njn : kn ≠ kj := by rintro rfl; rw [h.jour] at hn; cases hn
 have nhn : kn ≠ kh := by rintro rfl; rw [hh.row] at hn; cases hn
 have dok : D.ok := by rw [hD]; exact Heap.ok_set h.ok h.disk
 have dn : D.get kn = some (.row true 8 [[.int .i64 0, .ptr kd 0, .ptr kj 0, .ptr kh 0, wv, x5, x6, x7]]) := by rw [hD, Heap.get_set, if_neg nkn]; exact hn
 have dd : D.get kd = some (.row true 2 [[.str bs, .int .i64 0]]) := by rw [hD, Heap.get_set, if_pos rfl]
 have dj : D.get kj = some (.row true 2 [[.ptr kd 0, .int .i64 m]]) := by rw [hD, Heap.get_set, if_neg nkj]; exact h.jour
 have dh : isHd D kh lv .nils [s] [] := by rw [hD]; exact hh.set2 h.disk (by simp) nkh _
 have dw : isWt D wv ws := by
  rcases hw with e | ⟨kw, a1, a2, a3⟩
  ·exact .inl e
  ·refine .inr ⟨kw, a1, a2, ?_⟩
   rw [hD, Heap.get_set, if_neg ?_]
   ·exact a3
   ·rintro rfl; rw [h.disk] at a3; cases a3
 have kpD : ∀ b, Kp [kn, kd] G (D.set kn b) := fun b => ⟨fun j c hj hc => by rw [Heap.get_set, if_neg (by rintro rfl; simp at hj), hD, Heap.get_set, if_neg (by rintro rfl; simp at hj)]; exact hc, by rw [Heap.nx_set, hD, Heap.nx_set]; exact Nat.le_refl _⟩
 clear hD
 have dn' := fun L => Heap.get_ext_old dok dn L
 have s1 := fun b (l : List Blk) (α : Type) (c' : Heap → α) => Heap.setC_here dok dn b l c'
 have s0 : ∀ b (α : Type) (c' : Heap → α), D.setC kn b c' = c' (D.set kn b) := fun b α c' => by
  have := Heap.setC_here dok dn b [] c'
  rwa [Heap.ext_nil, Heap.ext_nil] at this
 refine WW.nil ?_
 simp only [go_sem, dn, s0, Heap.ext_nil]
 have en : ∀ b, (D.set kn b).get kn = some b := fun b => by rw [Heap.get_set, if_pos rfl]
 refine ⟨?_, ⟨Heap.ok_set dok dn, ⟨.nils, en _, .inl ⟨rfl, rfl⟩⟩, ?_, ?_, ⟨lv, dh.set8 dn foreign_node nhn _⟩⟩, kpD _⟩
 ·rcases dw with e | ⟨kw, a1, a2, a3⟩
  ·exact .inl e
  ·refine .inr ⟨kw, a1, a2, ?_⟩
   rw [Heap.get_set, if_neg ?_]
   ·exact a3
   ·rintro rfl; rw [dn] at a3; cases a3
 ·rw [Heap.get_set, if_neg nkn.symm]; exact dd
 ·rw [Heap.get_set, if_neg njn]; exact dj
end
end Go.Proofs
namespace Go.Proofs
open Go Go.Ev
def bsa : List Nat := [47, 152, 82, 102, 24, 1, 0, 0, 0, 0, 0, 0, 0, 1, 13, 113, 135, 31, 170, 8, 1, 1, 0, 0, 0, 0, 0, 0, 0]
def rowQ : Blk := .row true 8 [[.int .i64 1, .int .i64 1, .str [], .str [], .bool false, .nils, .nils, .nils]]
def blN : List Blk := [.row true 8 [[.int .i64 0, .ptr K.z.o 0, .ptr K.z.i 0, .ptr K.z.o.o 0, .nils, .int .i64 0, .int .i64 0, .map K.z.o.i]], .row true 2 [[.str bsa, .int .i64 0]], .row true 2 [[.ptr K.z.o 0, .int .i64 1]], .row true 2 [[.slice K.z.i.o 0 1 8 false 1, .nils]], .map [], rowQ]
def selN : List K := [K.z.o.i.i, K.z.o.o.o, K.z.i.o.i, K.z.o.o.i, K.z.o.i.o, K.z.i.i.o.o.o.o]
theorem newC : chkB [rowQ] blN selN [.int .i64 0, .slice .z 0 1 8 true 1] (.ptr .z 0) = true := by kernel_rfl
theorem newR : runL (evFn Tryz.prog XL 100000 6 [.int .i64 0, .slice .z 0 1 8 true 1] (hp0.ext [rowQ])) selN blN = some ((AV.ptr .z 0).ren (rk selN .z), true, wantL selN blN) := by kernel_rfl
theorem new_all {H : Heap} {k : K} (hok : H.ok) (hk : H.get k = some rowQ) : FnOk Tryz.prog 6 [.int .i64 0, .slice k 0 1 8 true 1] H
  fun v G => (∃ kn kd kj kh km, v = .ptr kn 0 ∧ isNd G kn kd kj kh bsa 0 1 [] (.int .i64 0) (.int .i64 0) (.map km) (nS 1 1 [] [] false)) ∧ ∀ j b, H.get j = some b → j ≠ k → G.get j = some b := by
 have hF : Fit H [k] [rowQ] := by
  refine ⟨rfl, by simp, fun j hj => ?_, fun b hb j hj => ?_, fun i b j hb hj hl => ?_⟩
  ·rw [List.mem_singleton.1 hj]; exact hok _ _ hk
  ·rw [List.mem_singleton.1 hb] at hj
   simp [Blk.keysA, rowQ, AV.keyss, AV.keys] at hj
  ·cases i with
   | zero => cases hb; cases hj; exact hk
   | succ i => simp at hb
 have := FnOk.run good_XL newC newR hF
 have e : AV.rens (rk [k] .z) [.int .i64 0, .slice .z 0 1 8 true 1] = [.int .i64 0, .slice k 0 1 8 true 1] := by simp only [AV.rens, AV.ren]; rfl
 rw [e] at this
 refine this.mono ?_
 rintro v G ⟨κ, rfl, hX⟩
 have hl : κ.length = 6 := hX.fit.len
 obtain ⟨a, b, c, d, e, f, rfl⟩ : ∃ a b c d e f, κ = [a, b, c, d, e, f] := by
  rcases κ with _ | ⟨a, _ | ⟨b, _ | ⟨c, _ | ⟨d, _ | ⟨e, _ | ⟨f, _ | ⟨g, l⟩⟩⟩⟩⟩⟩⟩ <;> first | (simp at hl; done) | exact ⟨_, _, _, _, _, _, rfl⟩
 have g0 := hX.fit.blk 0 _ _ rfl rfl trivial
 have g1 := hX.fit.blk 1 _ _ rfl rfl trivial
 have g2 := hX.fit.blk 2 _ _ rfl rfl trivial
 have g3 := hX.fit.blk 3 _ _ rfl rfl trivial
 have g5 : G.get f = some rowQ := hX.fit.blk 5 _ _ rfl rfl trivial
 refine ⟨⟨a, b, c, d, e, rfl, hX.ok, ⟨_, g0, .inl ⟨rfl, rfl⟩⟩, g1, g2, ⟨_, hX.ok, g3, .inr ⟨f, 0, false, 1, rfl, hX.ok _ _ g5, fun _ => ⟨0, true, _, rfl, g5, rfl⟩⟩, .inl ⟨rfl, rfl⟩, ?_, ?_, by simp⟩⟩, fun j b hj hne => hX.keep j b hj fun i c h1 h2 h3 => ?_⟩
 ·intro s hs
  rw [List.mem_singleton.1 hs]
  exact nS_ok ..
 ·intro s hs
  rw [List.mem_singleton.1 hs]
  exact nS_small ..
 ·cases i with
  | zero => cases h3; exact hne rfl
  | succ i => simp at h1
end Go.Proofs
namespace Go.Proofs
open Go Go.Ev
noncomputable def an2 (a b : Bool) : Bool := bif' a b false
theorem an2_t {a b : Bool} (h : an2 a b = true) : a = true ∧ b = true := by
 cases a
 ·cases h
 ·exact ⟨rfl, h⟩
noncomputable def eqBo (a b : Bool) : Bool := bif' a b (bif' b false true)
theorem eqBo_t {a b : Bool} (h : eqBo a b = true) : a = b := by cases a <;> cases b <;> first | rfl | cases h
noncomputable def fAV {β : Type} (v : AV) (c : AV → β) : β := match v with
 | .int k n => fI n fun n => c (.int k n)
 | .str l => fLN l fun l => c (.str l)
 | .slice k o n e x p => fN n fun n => fN p fun p => c (.slice k o n e x p)
 | v => c v
theorem fAV_eq {β : Type} (v : AV) (c : AV → β) : fAV v c = c v := by
 cases v <;> simp only [fAV, fI_eq, fLN_eq, fN_eq]
noncomputable def fAVs {β : Type} (l : List AV) : (List AV → β) → β := List.rec (motive := fun _ => (List AV → β) → β) (fun c => c []) (fun v _ ih c => fAV v fun v => ih fun l => c (v :: l)) l
theorem fAVs_eq {β : Type} : ∀ (l : List AV) (c : List AV → β), fAVs l c = c l
 | [], c => rfl
 | v :: l, c => by
  show fAV v (fun v => fAVs l fun l => c (v :: l)) = _
  rw [fAV_eq, fAVs_eq l]
noncomputable def fRows {β : Type} (l : List (List AV)) : (List (List AV) → β) → β := List.rec (motive := fun _ => (List (List AV) → β) → β) (fun c => c []) (fun v _ ih c => fAVs v fun v => ih fun l => c (v :: l)) l
theorem fRows_eq {β : Type} : ∀ (l : List (List AV)) (c : List (List AV) → β), fRows l c = c l
 | [], c => rfl
 | v :: l, c => by
  show fAVs v (fun v => fRows l fun l => c (v :: l)) = _
  rw [fAVs_eq, fRows_eq l]
noncomputable def fBlk {β : Type} (b : Blk) (c : Blk → β) : β := match b with
 | .row w e rows => fRows rows fun r => c (.row w e r)
 | b => c b
theorem fBlk_eq {β : Type} (b : Blk) (c : Blk → β) : fBlk b c = c b := by
 cases b <;> simp only [fBlk, fRows_eq]
noncomputable def fBlks {β : Type} (l : List Blk) : (List Blk → β) → β := List.rec (motive := fun _ => (List Blk → β) → β) (fun c => c []) (fun v _ ih c => fBlk v fun v => ih fun l => c (v :: l)) l
theorem fBlks_eq {β : Type} : ∀ (l : List Blk) (c : List Blk → β), fBlks l c = c l
 | [], c => rfl
 | v :: l, c => by
  show fBlk v (fun v => fBlks l fun l => c (v :: l)) = _
  rw [fBlk_eq, fBlks_eq l]
noncomputable def fK {β : Type} (k : K) : (K → β) → β := K.rec (motive := fun _ => (K → β) → β) (fun c => c .z) (fun _ ih c => ih fun k => c k.o) (fun _ ih c => ih fun k => c k.i) k
theorem fK_eq {β : Type} : ∀ (k : K) (c : K → β), fK k c = c k
 | .z, c => rfl
 | .o k, c => by
  show fK k (fun k => c k.o) = _
  rw [fK_eq k]
 | .i k, c => by
  show fK k (fun k => c k.i) = _
  rw [fK_eq k]
noncomputable def fKs {β : Type} (l : List K) : (List K → β) → β := List.rec (motive := fun _ => (List K → β) → β) (fun c => c []) (fun v _ ih c => fK v fun v => ih fun l => c (v :: l)) l
theorem fKs_eq {β : Type} : ∀ (l : List K) (c : List K → β), fKs l c = c l
 | [], c => rfl
 | v :: l, c => by
  show fK v (fun v => fKs l fun l => c (v :: l)) = _
  rw [fK_eq, fKs_eq l]
noncomputable def eqRows (a : List (List AV)) : List (List AV) → Bool := List.rec (motive := fun _ => List (List AV) → Bool) (fun b => List.rec (motive := fun _ => Bool) true (fun _ _ _ => false) b) (fun x _ ih b => List.rec (motive := fun _ => Bool) false (fun y r _ => an2 (eqAV (.agg x) (.agg y)) (ih r)) b) a
theorem eqRows_t : ∀ {a b : List (List AV)}, eqRows a b = true → a = b
 | [], [], _ => rfl
 | [], _ :: _, h => by cases h
 | _ :: _, [], h => by cases h
 | x :: a, y :: b, h => by
  obtain ⟨h1, h2⟩ := an2_t (h : an2 (eqAV (.agg x) (.agg y)) (eqRows a b) = true)
  have h1 := eqAV_eq h1
  injection h1 with h1
  rw [h1, eqRows_t h2]
noncomputable def eqOB (a b : Option Blk) : Bool := match a, b with
 | none, none => true
 | some (.row w e r), some (.row w' e' r') => an2 (eqBo w w') (an2 (Nat.beq e e') (eqRows r r'))
 | some (.map []), some (.map []) => true
 | _, _ => false
theorem eqOB_t {a b : Option Blk} (h : eqOB a b = true) : a = b := by
 unfold eqOB at h
 split at h
 ·rfl
 ·obtain ⟨h1, h⟩ := an2_t h
  obtain ⟨h2, h3⟩ := an2_t h
  rw [eqBo_t h1, Nat.eq_of_beq_eq_true h2, eqRows_t h3]
 ·rfl
 ·cases h
noncomputable def eqOBs (a : List (Option Blk)) : List (Option Blk) → Bool := List.rec (motive := fun _ => List (Option Blk) → Bool) (fun b => List.rec (motive := fun _ => Bool) true (fun _ _ _ => false) b) (fun x _ ih b => List.rec (motive := fun _ => Bool) false (fun y r _ => an2 (eqOB x y) (ih r)) b) a
theorem eqOBs_t : ∀ {a b : List (Option Blk)}, eqOBs a b = true → a = b
 | [], [], _ => rfl
 | [], _ :: _, h => by cases h
 | _ :: _, [], h => by cases h
 | x :: a, y :: b, h => by
  obtain ⟨h1, h2⟩ := an2_t (h : an2 (eqOB x y) (eqOBs a b) = true)
  rw [eqOB_t h1, eqOBs_t h2]
noncomputable def eqRun (r : Option (AV × Bool × List (Option Blk))) (v : AV) (w : List (Option Blk)) : Bool := match r with
 | some (x, b, l) => an2 (eqAV x v) (an2 b (eqOBs l w))
 | none => false
theorem eqRun_t {r : Option (AV × Bool × List (Option Blk))} {v : AV} {w : List (Option Blk)} (h : eqRun r v w = true) : r = some (v, true, w) := by
 unfold eqRun at h
 split at h
 ·obtain ⟨h1, h⟩ := an2_t h
  obtain ⟨h2, h3⟩ := an2_t h
  rw [eqAV_eq h1, h2, eqOBs_t h3]
 ·cases h
noncomputable def runB (f : FuncId) (args : List AV) (bl bl' : List Blk) (sel : List K) (v1 : AV) : Bool :=
 fBlks bl fun bl => fBlks bl' fun bl' => fAVs args fun args => fKs sel fun sel => an2 (chkB bl bl' sel args v1) (eqRun (runL (evFn Tryz.prog XL 100000 f args (hp0.ext bl)) sel bl') (v1.ren (rk sel .z)) (wantL sel bl'))
theorem runB_t {f : FuncId} {args : List AV} {bl bl' : List Blk} {sel : List K} {v1 : AV} (h : runB f args bl bl' sel v1 = true) :
  chkB bl bl' sel args v1 = true ∧ runL (evFn Tryz.prog XL 100000 f args (hp0.ext bl)) sel bl' = some (v1.ren (rk sel .z), true, wantL sel bl') := by
 unfold runB at h
 rw [fBlks_eq, fBlks_eq, fAVs_eq, fKs_eq] at h
 obtain ⟨h1, h2⟩ := an2_t h
 exact ⟨h1, eqRun_t h2⟩
def batT (s id x : Nat) : List Nat := [2, s, id, 0, 0, 0, 6, 0, 0, 0, 0, 3, 1, 97, 1, x, 0, 1, 98, 1, x, 0, 1, 99, 1, x, 0, 0, 0, 0, 0]
theorem bat_is : (allN 20 fun i => runB 27 [.agg (letL (i % 3) (i / 3 + 1) (batL (.slice .z 0 3 3 true 3)))] [wrB (65 + i)] [wrB (65 + i)] [.z] (.bool true)) = true := by kernel_rfl
theorem bat_T : (allN 20 fun i => runB 54 [.agg (reqL ((i % 3 : Nat) : Int) ((i / 3 + 1 : Nat) : Int) (batL (.slice .z 0 3 3 true 3)))] [wrB (65 + i)] [wrB (65 + i)] [.z] (.str (batT (i % 3) (i / 3 + 1) (65 + i)))) = true := by kernel_rfl
end Go.Proofs
