/- a node's records done: freezes, thaws, refusals: walked. -/
import Derived.Test.YtglpihajimhekaaGreatDoorZ19
import Derived.Test.YtglpihajimhekaaGreatDoorProg
import Derived.KernelRfl
set_option linter.all false
set_option linter.all false
set_option maxRecDepth 100000
namespace Go.Proofs
open Go Go.Ev
variable {H : Heap}

def zA : List AV := [.int .i64 0, .str [], .int .i64 0, .nils]
theorem f80_ok {kd : Int} (hk : ¬ kd = 6) (key : List Nat) (a b c d : AV) : FnOk Tryz.prog 80 [.agg [.int .i64 kd, .str key, a, b, c, d]] H fun r G => r = .str key ∧ G = H := by
  refine FnOk.drop (R := fun r => r = .str key) ?_ (by rintro v rfl ρ; rw [AV.ren])
  refine FnOk.of_WW Tryz.func80 rfl C80ok R80ok E0 good_E0 ?_
  have z1 := eq_false hk
  simp only [go_sem, C80, z1]
  exact ⟨_, rfl⟩
section
variable {G : Heap} {k : K} {lv gv : AV} {hs : List Sh} {gs : List Gn}
theorem isHd.reset (h : isHd G k lv gv hs gs) : isHd (G.set k (.row true 2 [[lv, gv]])) k lv gv hs gs := by
  have h1 := Heap.get_set_here h.ok h.row (.row true 2 [[lv, gv]]) []
  rw [Heap.ext_nil] at h1
  exact ⟨Heap.ok_set h.ok h.row, h1, h.l.set h.row (by decide), gone_set h _, fun s hs => ok_set' h (h.each s hs) (h.small s hs) _, h.small, h.few⟩
theorem evs_cell {j : K} {wr : Bool} {a : Int} {x y z v : AV} {l : List Evn} (h : Arr G 4 v (l.map Evn.enc)) (hj : G.get j = some (.row wr 4 [[.int .i64 a, x, y, z]])) (b : Blk) : Arr (G.set j b) 4 v (l.map Evn.enc) := by
  rcases h with g | ⟨c, off, ex, cap, hv, hc, g⟩
  · exact .inl g
  · refine .inr ⟨c, off, ex, cap, hv, hc, fun hx => ?_⟩
    obtain ⟨r, wr', rows', h1, h2, h3⟩ := g hx
    refine ⟨r, wr', rows', h1, ?_, h3⟩
    rw [Heap.get_set, if_neg fun e => ?_]
    · exact h2
    · subst e
      rw [h2] at hj
      have h5 := Option.some.inj hj
      injection h5 with _ _ h5
      subst h5
      cases l with
      | nil => exact hx rfl
      | cons c l =>
        cases r with
        | zero =>
          have h6 := congrArg (fun z => z[0]?) h3
          simp only [List.map_cons, List.length_cons, List.drop_zero, List.take_succ_cons, List.getElem?_cons_zero, Evn.enc] at h6
          have h7 := Option.some.inj h6
          injection h7 with h7 _
          cases h7
        | succ r => simp at h3
/-- an answer's cell is no part of it -/
theorem isHd.cell (h : isHd G k lv gv hs gs) {j : K} {wr : Bool} {a : Int} {x y z : AV} (hj : G.get j = some (.row wr 4 [[.int .i64 a, x, y, z]])) (b : Blk) : isHd (G.set j b) k lv gv hs gs := by
  refine ⟨Heap.ok_set h.ok hj, ?_, h.l.set hj (by decide), h.g.set hj (by decide), fun s hs => ?_, h.small, h.few⟩
  · rw [Heap.get_set, if_neg fun e => ?_]
    · exact h.row
    · subst e
      have h1 := h.row
      rw [hj] at h1
      cases h1
  · have ho := h.each s hs
    exact ⟨ho.c.set hj (by decide), evs_cell ho.e hj b, ho.d.set hj (by decide), bareL.ok (h.small s hs).b _, ho.cl, ho.el, ho.dl⟩
theorem ne_key {b : Blk} (hok : G.ok) (h : G.get k = some b) (i : Nat) : k ≠ G.key i := by
  rintro rfl
  have := hok _ _ h
  rw [Heap.toNat_key] at this
  omega
theorem Nx.cell {G' : Heap} (h : Nx k G G') (hok : G.ok) (hok' : G'.ok) {i : Nat} {c : Blk} (hc : G'.get (G.key i) = some c) (b : Blk) (L : List Blk) : Nx k G ((G'.set (G.key i) b).ext L) :=
  ⟨fun j d hj hd => Heap.get_set_there hok' (h.keep j d hj hd) (fun e => ne_key hok hd i e.symm) b L,
    fun B hB hl => ext_own (set_own hok' hc (h.own B hB hl) (by obtain ⟨M, rfl⟩ := hB; rw [Heap.toNat_key, Heap.nx_ext, Heap.toNat_key]; omega)) L,
    by rw [Heap.nx_ext, Heap.toNat_key]; exact Nat.le_trans h.le (Nat.le_add_right _ _)⟩
end
end Go.Proofs
/- what was given away, in order; the first record: walked. -/

set_option linter.all false
set_option linter.all false
set_option maxRecDepth 100000
namespace Go.Proofs
open Go Go.Ev
variable {H : Heap}

theorem f254_one {v : AV} {n : Nat} (hn : n ≤ 1) (g : AV) : FnOk Tryz.prog 254 [v, .int .i64 0, .int .i64 n, g] H fun r G => r = .tup [] ∧ G = H := by
  refine FnOk.drop (R := fun r => r = .tup []) ?_ (by rintro v rfl ρ; simp only [AV.ren, AV.rens])
  refine FnOk.of_WW Tryz.func254 rfl C254ok R254ok E0 good_E0 ?_
  have hw01 : IntKind.i64.wrap (0 + 1) = 1 := rfl
  have hc : ¬ (1 : Int) < (n : Int) := by omega
  simp only [go_sem, C254, hw01]
  refine LL.st good_E0 (fun _ : Nat => 0) (fun _ => True) (fun _ => [((.i .z), .int .i64 n), ((.i (.o (.o .z))), .int .i64 1)]) (fun _ => []) ?_ 0 (σ := []) (Wk.of rfl (by decide) (by simp only [go_sem]; first | done | rfl | trace_state) (by simp only [go_sem])) trivial
  rintro _ _
  simp only [go_sem, hc]
  exact ⟨_, rfl⟩
theorem f263_ok {n : Nat} (hn : n ≤ 1) : FnOk Tryz.prog 263 [.int .u64 n] H fun r G => r = .int .i64 n ∧ G = H := by
  refine FnOk.drop (R := fun r => r = .int .i64 n) ?_ (by rintro v rfl ρ; rw [AV.ren])
  refine FnOk.of_WW Tryz.func263 rfl C263ok R263ok E0 good_E0 ?_
  have h : n = 0 ∨ n = 1 := by omega
  have hw0 : IntKind.i64.wrap (0 + 0) = 0 := rfl
  have hw1 : IntKind.i64.wrap (0 + 1) = 1 := rfl
  have u0 : IntKind.u8.wrap 0 = ((0 : Nat) : Int) := rfl
  have u1 : IntKind.u8.wrap 1 = ((1 : Nat) : Int) := rfl
  have i0 : IntKind.i64.wrap 0 = 0 := rfl
  have i1 : IntKind.i64.wrap 1 = 1 := rfl
  rcases h with rfl | rfl
  · simp only [go_sem, C263, hw0, hw1, u0, u1, i0, i1, Int.ofNat_zero, Int.natCast_zero, Int.ofNat_one, Int.natCast_one]
    exact ⟨_, rfl⟩
  · simp only [go_sem, C263, hw0, hw1, u0, u1, i0, i1, Int.ofNat_zero, Int.natCast_zero, Int.ofNat_one, Int.natCast_one]
    exact ⟨_, rfl⟩
theorem f218_ok {n : Nat} (hn : n ≤ 1) : FnOk Tryz.prog 218 [.int .u64 n] H fun r G => r = .int .i64 n ∧ G = H := by
  refine FnOk.drop (R := fun r => r = .int .i64 n) ?_ (by rintro v rfl ρ; rw [AV.ren])
  refine FnOk.of_WW Tryz.func218 rfl C218ok R218ok E0 good_E0 ?_
  simp only [go_sem, C218]
  refine CL.of (f263_ok hn) ?_
  rintro _ G' ⟨rfl, hG⟩; rw [hG]; clear hG
  simp only [go_sem]
  exact ⟨_, rfl⟩
theorem f217_ok {v : AV} (hv : ∀ top σ, AV.ren (rho H top σ) v = v) {n : Nat} (hn : n ≤ 1) (f : FuncId) : FnOk Tryz.prog 217 [v, .int .i64 0, .int .i64 n, .int .i64 n, .fn (.func f) [] []] H fun r G => r = .tup [] ∧ G = H := by
  refine FnOk.drop (R := fun r => r = .tup []) ?_ (by rintro v rfl ρ; simp only [AV.ren, AV.rens])
  refine FnOk.of_WW Tryz.func217 rfl C217ok R217ok E0 good_E0 ?_
  have hw : IntKind.i64.wrap ((n : Int) - 0) = n := by rw [Int.sub_zero]; exact wrap_i64 (by omega) (by omega)
  have hc : (n : Int) ≤ 12 := by omega
  simp only [go_sem, C217]
  refine LL.st good_E0 (fun _ : Nat => 0) (fun _ => True) (fun _ => [(.z, v), ((.o .z), .int .i64 0), ((.i .z), .int .i64 n), ((.i (.o .z)), .fn (.func f) [] [])]) (fun _ => []) ?_ 0 (σ := []) (Wk.of rfl (by decide) (by simp only [go_sem, hv]; first | done | rfl | trace_state) (by simp only [go_sem])) trivial
  rintro _ _
  simp only [go_sem, hw, hc]
  refine CL.of (f254_one hn _) ?_
  rintro _ G' ⟨rfl, hG⟩; rw [hG]; clear hG
  simp only [go_sem]
  exact ⟨_, rfl⟩
theorem f171_ok {v : AV} {gs : List Gn} (hA : Arr H 2 v (gs.map Gn.enc)) (hn : gs.length ≤ 1) (f : FuncId) : FnOk Tryz.prog 171 [v, .fn (.func f) [] []] H fun r G => r = .tup [] ∧ G = H := by
  refine FnOk.drop (R := fun r => r = .tup []) ?_ (by rintro v rfl ρ; simp only [AV.ren, AV.rens])
  refine FnOk.of_WW Tryz.func171 rfl C171ok R171ok E0 good_E0 ?_
  have hlen := fun G => hA.len G
  simp only [List.length_map] at hlen
  have hw : IntKind.u64.wrap (gs.length : Int) = gs.length := by
    have h : gs.length = 0 ∨ gs.length = 1 := by omega
    rcases h with h | h <;> rw [h] <;> rfl
  simp only [go_sem, C171, hlen, hw]
  refine CL.of (f218_ok hn) ?_
  rintro _ G' ⟨rfl, hG⟩; rw [hG]; clear hG
  simp only [go_sem]
  refine CL.of (f217_ok (fun top σ => (hA.ext _).ren top σ) hn f) ?_
  rintro _ G' ⟨rfl, hG⟩; rw [hG]; clear hG
  simp only [go_sem]
  exact ⟨_, rfl⟩
/-- a shard with nothing in it -/
def nS (id ep : Int) (fr to : List Nat) (z : Bool) : Sh := ⟨id, ep, fr, to, z, [], [], [], .nils, .nils, .nils⟩
theorem nS_ok (H : Heap) (id ep : Int) (fr to : List Nat) (z : Bool) : (nS id ep fr to z).ok H := ⟨.inl ⟨rfl, rfl⟩, .inl ⟨rfl, rfl⟩, .inl ⟨rfl, rfl⟩, fun d hd => absurd hd List.not_mem_nil, Nat.lt_of_sub_eq_succ rfl, Nat.lt_of_sub_eq_succ rfl, Nat.lt_of_sub_eq_succ rfl⟩
theorem nS_small (id ep : Int) (fr to : List Nat) (z : Bool) : smallS (nS id ep fr to z) := ⟨fun d hd => absurd hd List.not_mem_nil, Nat.lt_of_sub_eq_succ rfl, Nat.lt_of_sub_eq_succ rfl, Nat.lt_of_sub_eq_succ rfl⟩
theorem clo42 : CloFn Tryz.prog 126 2 16 [.int .i64 0, .int .i64 0] := ⟨⟨Tryz.f126, Tryz.func126, by kernel_rfl, by kernel_rfl⟩, rfl, by decide⟩
theorem f169_ok {s : Sh} (h : s.ok H) : FnOk Tryz.prog 169 [.agg s.enc] H fun r G => r = .bool (decide (¬ isSh s)) ∧ G = H := by
  refine FnOk.drop (R := fun r => r = .bool (decide (¬ isSh s))) ?_ (by rintro v rfl ρ; rw [AV.ren])
  refine FnOk.of_WW Tryz.func169 rfl C169ok R169ok E0 good_E0 ?_
  simp only [go_sem, C169, Sh.enc]
  refine CL.bool (f21_ok (h.ext _)) (fun g => ?_) (fun g => ?_)
  · simp only [go_sem]
    exact ⟨bool_f fun h => h g, _, rfl⟩
  · simp only [go_sem]
    exact ⟨bool_t g, _, rfl⟩
theorem f168_one {s : Sh} (h : s.ok H) (hs : isSh s) {v : AV} (hA : Arr H 8 v [s.enc]) : FnOk Tryz.prog 168 [v, .fn (.func 169) [] []] H fun r G => r = .bool false ∧ G = H := by
  refine FnOk.drop (R := fun r => r = .bool false) ?_ (by rintro v rfl ρ; rw [AV.ren])
  refine FnOk.of_WW Tryz.func168 rfl C168ok R168ok E0 good_E0 ?_
  simp only [go_sem, C168]
  have h64 := f119_ok (l := [s]) (caps := []) (q := fun s => decide (¬ isSh s)) hA (by show 1 ≤ 100000; decide) (fun _ _ => call169 ..) (fun _ _ => by simp only [AV.ren, AV.rens]) (fun x hx L => by rw [List.mem_singleton.1 hx]; exact f169_ok (h.ext L))
  have hx : idx (fun s => decide (¬ isSh s)) [s] 0 = -1 := by unfold idx; rw [decide_eq_false (fun g => g hs), if_neg Bool.false_ne_true]; rfl
  rw [hx, ← Heap.ext_nil H] at h64
  refine CL.of h64 ?_
  rintro _ G' ⟨rfl, hG⟩; rw [hG]; clear hG
  simp only [go_sem]
  exact ⟨_, rfl⟩
end Go.Proofs
/- a node with one shard; records of a shard's number and epoch: walked. -/

set_option linter.all false
set_option linter.all false
set_option maxRecDepth 100000
namespace Go.Proofs
open Go Go.Ev
variable {H : Heap}

section
variable {G : Heap} {k : K}
end
theorem f23_ok : FnOk Tryz.prog 23 [] H fun r G => r = .ptr (H.key 0) 0 ∧ G = H.ext [.row true 2 [[.nils, .nils]]] := by
  refine FnOk.of_WW Tryz.func23 rfl C23ok R23ok E0 good_E0 ?_
  simp only [go_sem, C23]
end Go.Proofs
/- CutOnce: walked. -/


set_option linter.all false
set_option linter.all false
set_option maxRecDepth 100000
namespace Go.Proofs
open Go Go.Ev
variable {H : Heap}

theorem askS_ok {s : Sh} {G : Heap} {L : List Blk} {i j q : Nat} {k v : List Nat} {ses id : Int} (hc : (refW s.cells (nextC s.cells k v false)).length < 10000) (he : s.evs.length < 10000) (hd : (withD s.done ⟨ses, id, putA ((getL s.cells k).1.ver + 1)⟩).length < 10000) (hdok : allOk G s.done) (h1 : L[i]? = some (outB 5 ((askS s k v ses id .z .z .z).cells.map Cell.enc))) (h2 : L[j]? = some (outB 4 ((askS s k v ses id .z .z .z).evs.map Evn.enc))) (h3 : L[q]? = some (outB 6 ((askS s k v ses id .z .z .z).done.map Dn.enc))) : (askS s k v ses id (G.key i) (G.key j) (G.key q)).ok (G.ext L) where
  c := arr_outV h1 (by rw [List.length_map]; exact keepC_len _ _)
  e := arr_outV h2 (List.length_map ..)
  d := arr_outV h3 (List.length_map ..)
  dok := (withD_ok hdok (putA_ok G _)).ext L
  cl := by show (keepC _ _).length < _; rw [keepC_len]; omega
  el := by show (List.drop _ _).length < _; rw [List.length_drop, List.length_append]; show s.evs.length + 1 - _ < _; omega
  dl := by show (withD _ _).length < _; omega
end Go.Proofs
/- a request that puts a key, at a node of one shard that has nothing in it: walked. -/


set_option linter.all false
set_option linter.all false
set_option maxRecDepth 100000
namespace Go.Proofs
open Go Go.Ev
variable {H : Heap}

theorem get_of_ext {M : Heap} {bl L : List Blk} (hM : M = (H.ext bl).ext L) {i : Nat} {x : Blk} (h : bl[i]? = some x) : M.get (H.key i) = some x := by rw [hM]; exact get_lit2 h
theorem set_of_ext {M : Heap} {bl L : List Blk} (hM : M = (H.ext bl).ext L) {i : Nat} (h : i < bl.length) (b : Blk) (l : List Blk) : ∃ M2, (M.set (H.key i) b).ext l = H.ext M2 := by
  rw [hM, Heap.ext_append, Heap.set_ext_key _ _ _ _ (by rw [List.length_append]; omega), Heap.ext_append]
  exact ⟨_, rfl⟩
section
variable {G : Heap} {k : K} {lv : AV}
end
end Go.Proofs
/- a shard behind so many puts. -/

set_option linter.all false
set_option linter.all false
set_option maxRecDepth 100000
namespace Go.Proofs
open Go Go.Ev
variable {H : Heap}

theorem withL_leng (c : Cell) : ∀ l : List Cell, (withL l c).length ≤ l.length + 1
  | [] => Nat.le_refl _
  | d :: l => by
    unfold withL
    have := withL_leng c l
    split
    · simp only [List.length_cons]; omega
    · split <;> simp only [List.length_cons] <;> omega
section
variable {e : Int} {z : Bool} {i : Nat} {s : Sh}
end
end Go.Proofs
/- The laid-out code of the functions that are walked. -/

set_option linter.all false
set_option maxRecDepth 100000
namespace Go.Proofs
open Go Go.Ev K
noncomputable def C10 := mkC Tryz.prog Tryz.f10 17
theorem C10ok : CCok Tryz.prog Tryz.f10 17 C10 := mkC_ok _
@[go_sem] theorem call10 (a H) : callC Tryz.prog 10 a H = .call 10 a := callC_ok (by kernel_rfl) a H
theorem R10ok : resKs Tryz.prog Tryz.f10.results.toList = some [RK.tmp z.i] := by kernel_rfl
noncomputable def C14 := mkC Tryz.prog Tryz.f14 8
theorem C14ok : CCok Tryz.prog Tryz.f14 8 C14 := mkC_ok _
@[go_sem] theorem call14 (a H) : callC Tryz.prog 14 a H = .call 14 a := callC_ok (by kernel_rfl) a H
theorem R14ok : resKs Tryz.prog Tryz.f14.results.toList = some [RK.tmp z.i] := by kernel_rfl
noncomputable def C26 := mkC Tryz.prog Tryz.f26 7
theorem C26ok : CCok Tryz.prog Tryz.f26 7 C26 := mkC_ok _
@[go_sem] theorem call26 (a H) : callC Tryz.prog 26 a H = .call 26 a := callC_ok (by kernel_rfl) a H
theorem R26ok : resKs Tryz.prog Tryz.f26.results.toList = some [] := by kernel_rfl
noncomputable def C67 := mkC Tryz.prog Tryz.f67 5
theorem C67ok : CCok Tryz.prog Tryz.f67 5 C67 := mkC_ok _
@[go_sem] theorem call67 (a H) : callC Tryz.prog 67 a H = .call 67 a := callC_ok (by kernel_rfl) a H
theorem R67ok : resKs Tryz.prog Tryz.f67.results.toList = some [] := by kernel_rfl
noncomputable def C85 := mkC Tryz.prog Tryz.f85 33
theorem C85ok : CCok Tryz.prog Tryz.f85 33 C85 := mkC_ok _
@[go_sem] theorem call85 (a H) : callC Tryz.prog 85 a H = .call 85 a := callC_ok (by kernel_rfl) a H
theorem R85ok : resKs Tryz.prog Tryz.f85.results.toList = some [] := by kernel_rfl
noncomputable def C86 := mkC Tryz.prog Tryz.f86 9
theorem C86ok : CCok Tryz.prog Tryz.f86 9 C86 := mkC_ok _
@[go_sem] theorem call86 (a H) : callC Tryz.prog 86 a H = .call 86 a := callC_ok (by kernel_rfl) a H
theorem R86ok : resKs Tryz.prog Tryz.f86.results.toList = some [RK.cell z.i true 24] := by kernel_rfl
noncomputable def C136 := mkC Tryz.prog Tryz.f136 12
theorem C136ok : CCok Tryz.prog Tryz.f136 12 C136 := mkC_ok _
@[go_sem] theorem call136 (a H) : callC Tryz.prog 136 a H = .call 136 a := callC_ok (by kernel_rfl) a H
theorem R136ok : resKs Tryz.prog Tryz.f136.results.toList = some [RK.tmp z.i] := by kernel_rfl
noncomputable def C139 := mkC Tryz.prog Tryz.f139 35
theorem C139ok : CCok Tryz.prog Tryz.f139 35 C139 := mkC_ok _
@[go_sem] theorem call139 (a H) : callC Tryz.prog 139 a H = .call 139 a := callC_ok (by kernel_rfl) a H
theorem R139ok : resKs Tryz.prog Tryz.f139.results.toList = some [RK.tmp z.o.i] := by kernel_rfl
noncomputable def C66 := mkC Tryz.prog Tryz.f66 23
theorem C66ok : CCok Tryz.prog Tryz.f66 23 C66 := mkC_ok _
@[go_sem] theorem call66 (a H) : callC Tryz.prog 66 a H = .call 66 a := callC_ok (by kernel_rfl) a H
theorem R66ok : resKs Tryz.prog Tryz.f66.results.toList = some [RK.tmp z.o.i] := by kernel_rfl
noncomputable def C25 := mkC Tryz.prog Tryz.f25 64
theorem C25ok : CCok Tryz.prog Tryz.f25 64 C25 := mkC_ok _
@[go_sem] theorem call25 (a H) : callC Tryz.prog 25 a H = .call 25 a := callC_ok (by kernel_rfl) a H
theorem R25ok : resKs Tryz.prog Tryz.f25.results.toList = some [RK.cell z.o.i true 4, RK.tmp z.i.o] := by kernel_rfl
noncomputable def C81 := mkC Tryz.prog Tryz.f81 17
theorem C81ok : CCok Tryz.prog Tryz.f81 17 C81 := mkC_ok _
@[go_sem] theorem call81 (a H) : callC Tryz.prog 81 a H = .call 81 a := callC_ok (by kernel_rfl) a H
theorem R81ok : resKs Tryz.prog Tryz.f81.results.toList = some [] := by kernel_rfl
end Go.Proofs
/- A node's disk, journal: walked. -/



set_option linter.all false
set_option maxRecDepth 100000
namespace Go.Proofs
open Go Go.Ev
variable {H : Heap}
section
variable {k : K} {wr : Bool}
theorem f67_ok {b n : AV} (hk : H.get k = some (.row true 2 [[b, n]])) : FnOk Tryz.prog 67 [.ptr k 0] H fun r G => r = .tup [] ∧ G = H.set k (.row true 2 [[b, .int .i64 0]]) := by
  refine FnOk.assume fun hok => ?_
  have hk' := fun L => Heap.get_ext_old hok hk L
  have hset := fun b (l : List Blk) (α : Type) (c' : Heap → α) => Heap.setC_here hok hk b l c'
  refine FnOk.of_WW Tryz.func67 rfl C67ok R67ok E0 good_E0 ?_
  simp only [go_sem, C67, hk', hset]
  rfl
theorem f26_ok {kd : K} {m b n : AV} (hk : H.get k = some (.row wr 2 [[.ptr kd 0, m]])) (hd : H.get kd = some (.row true 2 [[b, n]])) : FnOk Tryz.prog 26 [.ptr k 0] H fun r G => r = .tup [] ∧ G = H.set kd (.row true 2 [[b, .int .i64 0]]) := by
  refine FnOk.assume fun hok => ?_
  have hk' := fun L => Heap.get_ext_old hok hk L
  refine FnOk.of_WW Tryz.func26 rfl C26ok R26ok E0 good_E0 ?_
  simp only [go_sem, C26, hk']
  refine CL.of (f67_ok (Heap.get_ext_old hok hd _)) ?_
  rintro _ G' ⟨rfl, hG⟩; rw [hG]; clear hG
  rw [Heap.ext_nil]
  refine WW.nil ?_
  simp only [go_sem]
  rfl
theorem f14_ok {a b c d f g h : AV} {w : AV} {xs : List (List AV)} (hw : Arr H 24 w xs) (hk : H.get k = some (.row wr 8 [[a, b, c, d, w, f, g, h]])) : FnOk Tryz.prog 14 [.ptr k 0] H fun r G => r = .int .i64 xs.length ∧ G = H := by
  refine FnOk.assume fun hok => ?_
  have hk' := fun L => Heap.get_ext_old hok hk L
  have hl := hw.len
  refine FnOk.of_WW Tryz.func14 rfl C14ok R14ok E0 good_E0 ?_
  simp only [go_sem, C14, hk', hl]
  rfl
/-- bytes put behind all -/
theorem f136_ok {n : Nat} (hn : n ≤ 200000) : FnOk Tryz.prog 136 [.int .i64 n] H fun r G => r = .nili ∧ G = H := by
  refine FnOk.of_WW Tryz.func136 rfl C136ok R136ok E0 good_E0 ?_
  have h1 : (n : Int) ≤ 200000 := by omega
  simp only [go_sem, C136, h1]
  rfl
theorem f139_ok {b s : List Nat} {n : Nat} (hk : H.get k = some (.row true 2 [[.str b, .int .i64 n]])) (hl : b.length + s.length ≤ 200000) (hn : n ≤ b.length) : FnOk Tryz.prog 139 [.ptr k 0, .str s] H fun r G => r = .nili ∧ G = H.set k (.row true 2 [[.str (b ++ s), .int .i64 ((n + s.length : Nat) : Int)]]) := by
  refine FnOk.assume fun hok => ?_
  have hk' := fun L => Heap.get_ext_old hok hk L
  have hset := fun b (l : List Blk) (α : Type) (c' : Heap → α) => Heap.setC_here hok hk b l c'
  have hget := fun b L => Heap.get_set_here hok hk b L
  have hset2 := fun b d (l : List Blk) (α : Type) (c' : Heap → α) => Heap.setC_set_here (α := α) hok hk b d l c'
  have hw : IntKind.i64.wrap ((b.length : Int) + (s.length : Int)) = ((b.length + s.length : Nat) : Int) := by rw [wrap_i64 (by omega) (by omega)]; omega
  have hw2 : IntKind.i64.wrap ((n : Int) + (s.length : Int)) = ((n + s.length : Nat) : Int) := by rw [wrap_i64 (by omega) (by omega)]; omega
  refine FnOk.of_WW Tryz.func139 rfl C139ok R139ok E0 good_E0 ?_
  simp only [go_sem, C139, hk', hset, hw]
  refine CL.of (f136_ok hl) ?_
  rintro _ G' ⟨rfl, hG⟩; rw [hG]; clear hG
  simp only [go_sem, hk', hset, hget, hset2, hw2]
  exact ⟨by omega, rfl⟩
end
end Go.Proofs
/- copied, as a known answer; all shards of a record looked at. -/


set_option linter.all false
set_option maxRecDepth 100000
namespace Go.Proofs
open Go Go.Ev
variable {H : Heap}
open Classical in
/-- copied, wherever a shard is given -/
noncomputable def ECq : FuncId → List AV → Heap → RC := fun f args H =>
  if h : f = 45 ∧ ∃ s : Sh, args = [.agg s.enc] ∧ s.ok H ∧ smallS s then .ok (.agg (h.2.choose.cop (H.key 0) (H.key 1) (H.key 2)).enc) (H.ext (copB h.2.choose)) else .fail
theorem good_ECq : Ev.Good Tryz.prog ECq := by
  intro f args H r G he φ w args' ha hw
  refine (?_ : FnOk Tryz.prog f args H fun v' G' => v' = r ∧ G' = G).one φ w args' ha hw
  unfold ECq at he
  split at he
  · rename_i h
    obtain ⟨rfl, hs⟩ := id h
    obtain ⟨e1, e2, e3⟩ := h.2.choose_spec
    cases he
    generalize h.2.choose = t at e1 e2 e3
    rw [e1]
    exact f45_ok e2 e3
  · cases he
theorem ecq {s : Sh} (h : s.ok H) (hsm : smallS s) : ECq 45 [.agg [.int .i64 s.id, .int .i64 s.ep, .str s.fr, .str s.to, .bool s.frz, s.cv, s.ev, s.dv]] H = .ok (.agg (s.cop (H.key 0) (H.key 1) (H.key 2)).enc) (H.ext (copB s)) := by
  have hx : 45 = 45 ∧ ∃ t : Sh, [AV.agg [.int .i64 s.id, .int .i64 s.ep, .str s.fr, .str s.to, .bool s.frz, s.cv, s.ev, s.dv]] = [.agg t.enc] ∧ t.ok H ∧ smallS t := ⟨rfl, s, rfl, h, hsm⟩
  unfold ECq
  rw [dif_pos hx]
  obtain ⟨e1, e2, e3⟩ := hx.2.choose_spec
  generalize hx.2.choose = t at e1 e2 e3
  obtain ⟨id, ep, fr, to, frz, cells, evs, done, cv, ev, dv⟩ := t
  simp only [Sh.enc, List.cons.injEq, AV.agg.injEq, AV.int.injEq, AV.str.injEq, AV.bool.injEq, true_and, and_true] at e1
  obtain ⟨rfl, rfl, rfl, rfl, rfl, rfl, rfl, rfl⟩ := e1
  have u1 := e2.c.uniq h.c (by decide)
  have u2 := e2.e.uniq h.e (by decide)
  have u3 := e2.d.uniq h.d (by decide)
  have l1 := congrArg List.length u1
  have l2 := congrArg List.length u2
  have l3 := congrArg List.length u3
  simp only [List.length_map] at l1 l2 l3 u1 u2 u3
  simp only [Sh.cop, Sh.enc, copB, u1, u2, u3, l1, l2, l3]
end Go.Proofs
/- the record of all there is, of one shard, whatever it holds: walked. -/

set_option linter.all false
set_option maxRecDepth 100000
namespace Go.Proofs
open Go Go.Ev
variable {H : Heap}
section
variable {G : Heap} {k : K}
theorem isHd.putN {lv gv : AV} {hs hs' : List Sh} {gs : List Gn} (h : isHd G k lv gv hs gs) {L : List Blk} {j : Nat} (hj : L[j]? = some (.row true 8 (hs'.map Sh.enc))) (cap : Nat) (ex : Bool)
    (ho : ∀ s ∈ hs', s.ok ((G.set k (.row true 2 [[.slice (G.key j) 0 hs'.length 8 ex cap, gv]])).ext L)) (hsm : ∀ s ∈ hs', smallS s) (hl : hs'.length ≤ 8) :
    isHd ((G.set k (.row true 2 [[.slice (G.key j) 0 hs'.length 8 ex cap, gv]])).ext L) k (.slice (G.key j) 0 hs'.length 8 ex cap) gv hs' gs := by
  have hok := Heap.ok_ext (Heap.ok_set h.ok h.row (b := .row true 2 [[.slice (G.key j) 0 hs'.length 8 ex cap, gv]])) L
  have hjl := (List.getElem?_eq_some_iff.1 hj).1
  have hg : ((G.set k (.row true 2 [[.slice (G.key j) 0 hs'.length 8 ex cap, gv]])).ext L).get (G.key j) = some (.row true 8 (hs'.map Sh.enc)) := by rw [Heap.get_key_set hjl, hj]
  refine ⟨hok, Heap.get_set_here h.ok h.row _ L, .inr ⟨G.key j, 0, ex, cap, by rw [List.length_map], hok _ _ hg, fun _ => ⟨0, true, _, rfl, hg, ?_⟩⟩, (gone_set h _).ext L, ho, hsm, hl, h.few.2⟩
  rw [List.drop_zero, List.take_length]
theorem f109_one (h : isHd G k .nils .nils [] []) {v : AV} {s : Sh} (hA : Arr G 8 v [s.enc]) (ho : s.ok G) (hs : isSh s) (hsm : smallS s) :
    FnOk Tryz.prog 109 [.ptr k 0, .agg [.int .i64 1, .int .i64 0, .int .i64 0, .int .i64 0, .int .i64 0, .int .i64 0, .int .i64 0, .str [], .str [], .str [], .int .i64 0, .nils, .str [], .str [], v, .nils]] G fun r G' => r = .nili ∧ (∃ lv', ∃ cv ev dv : K, isHd G' k lv' .nils [s.cop cv ev dv] []) ∧ Nx k G G' := by
  refine FnOk.of_WW Tryz.func109 rfl C109ok R109ok ECq good_ECq ?_
  have hk : ∀ L, (G.ext L).get k = _ := fun L => Heap.get_ext_old h.ok h.row L
  have hset := fun b (l : List Blk) (α : Type) (c' : Heap → α) => Heap.setC_here h.ok h.row b l c'
  have hset2 := fun b d (l : List Blk) (α : Type) (c' : Heap → α) => Heap.setC_set_here h.ok h.row b d l c'
  have hk2 := fun b (l : List Blk) => Heap.get_set_here h.ok h.row b l
  have hlen := fun G => hA.len G
  simp only [go_sem, C109]
  refine CL.of (f168_one (ho.ext _) hs (hA.ext _)) ?_
  rintro _ G' ⟨rfl, hG⟩; rw [hG]; clear hG
  simp only [go_sem]
  refine CL.of (clone_nil clo42) ?_
  rintro _ G' ⟨rfl, hG⟩; rw [hG]; clear hG
  simp only [go_sem, hk, hset, hset2, hk2, hlen]
  obtain ⟨kk, r, ex', cap', wr, rows, hv, hrho, hgo, hrow⟩ := hA.at h.ok (j := 0) (Nat.zero_lt_succ _)
  have hg0 := hgo []
  rw [Heap.ext_nil] at hg0
  have hrow : rows[r]? = some [.int .i64 s.id, .int .i64 s.ep, .str s.fr, .str s.to, .bool s.frz, s.cv, s.ev, s.dv] := hrow
  have hne : k ≠ kk := by
    rintro rfl
    have := h.row
    rw [hg0] at this
    cases this
  have hw01 : IntKind.i64.wrap (0 + 1) = 1 := rfl
  have hv : v = .slice kk (r * 8) 1 8 ex' cap' := hv
  refine LL.sth good_ECq (fun i : Nat => 1 - i) (fun i M => (i = 0 ∧ isHd M k .nils .nils [] [] ∧ Nx k G M) ∨ (i = 1 ∧ (∃ lv', ∃ cv ev dv : K, isHd M k lv' .nils [s.cop cv ev dv] []) ∧ Nx k G M))
    (fun i => [(.z, .ptr k 0), ((.o (.i (.i (.o .z)))), v), ((.i (.i (.i (.o .z)))), .int .i64 1), ((.o (.o (.o (.i .z)))), .int .i64 i)]) ?_ 0 (.inl ⟨rfl, h.reset.ext _, Nx.set h.ok h.row _ _⟩) (Slots.all (by simp only [go_sem]; first | done | rfl | trace_state))
  rintro i M (⟨rfl, hM, hnx⟩ | ⟨rfl, ⟨lv', cv, ev, dv, hM⟩, hnx⟩)
  · have hkM : ∀ L, (M.ext L).get k = _ := fun L => Heap.get_ext_old hM.ok hM.row L
    have hgM : ∀ L, (M.ext L).get kk = _ := fun L => Heap.get_ext_old hM.ok (hnx.keep kk _ hne hg0) L
    have hsetM := fun b (l : List Blk) (α : Type) (c' : Heap → α) => Heap.setC_here hM.ok hM.row b l c'
    have hoM : s.ok M := hnx.sh h.row ho hsm
    have ec := fun L => ecq (hoM.ext L) hsm
    simp only [go_sem, hv, hkM, hgM, hrow, ec, hsetM, hw01, Sh.cop, Sh.enc, copB, Heap.key_ext]
    refine ⟨1, by show 1 - 1 < 1 - 0; decide, .inr ⟨rfl, ⟨_, _, _, _, isHd.putN hM (hs' := [s.cop (M.key 1) (M.key 2) (M.key 3)]) (j := 5) rfl 1 false (fun x hx => ?_) (fun x hx => ?_) (by show 1 ≤ 8; decide)⟩, hnx.trans (Nx.set hM.ok hM.row _ _)⟩, Slots.all (by simp only [go_sem, hv]; first | done | rfl | trace_state)⟩
    · rw [List.mem_singleton.1 hx]
      exact Sh.cop_ok (H := M.set k _) (ok_set' hM hoM hsm _) (i := 1) (j := 2) (m := 3) rfl rfl rfl
    · rw [List.mem_singleton.1 hx]
      exact ⟨hsm.b, hsm.c, hsm.e, hsm.d⟩
  · have hkM : ∀ L, (M.ext L).get k = _ := fun L => Heap.get_ext_old hM.ok hM.row L
    simp only [go_sem, hv, hkM]
    refine CL.of (f170_ok (hM.ext _) (Nat.le_refl 1)) ?_
    rintro _ G' ⟨rfl, hG⟩; rw [hG]; clear hG
    simp only [go_sem, hkM]
    refine CL.of (f171_ok (gs := []) (.inl ⟨rfl, rfl⟩) (Nat.zero_le _) 172) ?_
    rintro _ G' ⟨rfl, hG⟩; rw [hG]; clear hG
    simp only [go_sem]
    exact ⟨⟨_, _, _, _, hM.ext _⟩, hnx.trans (Nx.ext hM.ok _)⟩
end
end Go.Proofs
/- Loops of few rounds, unrolled. -/

set_option linter.all false
namespace Go.Ev
variable {P : Program} {H : Heap} {T : Tr AV} {E : FuncId → List AV → Heap → RC} {N : Nat} {H0 : Heap} {k : List It} {Q : Ex → Tr AV → Heap → Prop}
theorem WW.code_mono {x : CC} {Q R : Ex → Tr AV → Heap → Prop} (h : WW P E N H0 [.code x] T H Q) (hq : ∀ e T H, Q e T H → R e T H) : WW P E N H0 [.code x] T H R := wpc_mono x T H _ _ (fun e T H q => hq e T H q) h
noncomputable def UN (P : Program) (E : FuncId → List AV → Heap → RC) (N : Nat) (H0 : Heap) (x : CC) (k : List It) (Q : Ex → Tr AV → Heap → Prop) : Nat → Tr AV → Heap → Prop
  | 0, T, H => WW P E N H0 [.code x] T H (behind (fun _ _ => False) (postW P E N H0 k Q))
  | n + 1, T, H => WW P E N H0 [.code x] T H (behind (UN P E N H0 x k Q n) (postW P E N H0 k Q))
theorem LL.un {x : CC} (hE : Good P E) (n : Nat) (h : UN P E N H0 x k Q n T H) : LL P E N H0 x k T H Q := by
  refine LL.of hE (fun m T H => UN P E N H0 x k Q m T H) (fun m T H hm => ?_) (m := n) h
  cases m with
  | zero =>
    refine WW.code_mono hm fun e T H q => ?_
    cases e with
    | norm => exact q.elim
    | exit n => exact q
    | ret => exact q
  | succ m =>
    refine WW.code_mono hm fun e T H q => ?_
    cases e with
    | norm => exact ⟨m, Nat.lt_succ_self m, q⟩
    | exit n => exact q
    | ret => exact q
@[go_sem] theorem UN_0 (x : CC) : UN P E N H0 x k Q 0 T H = WW P E N H0 [.code x] T H (behind (fun _ _ => False) (postW P E N H0 k Q)) := nrf rfl
@[go_sem] theorem UN_1 (x : CC) : UN P E N H0 x k Q 1 T H = WW P E N H0 [.code x] T H (behind (UN P E N H0 x k Q 0) (postW P E N H0 k Q)) := nrf rfl
@[go_sem] theorem UN_2 (x : CC) : UN P E N H0 x k Q 2 T H = WW P E N H0 [.code x] T H (behind (UN P E N H0 x k Q 1) (postW P E N H0 k Q)) := nrf rfl
@[go_sem] theorem UN_3 (x : CC) : UN P E N H0 x k Q 3 T H = WW P E N H0 [.code x] T H (behind (UN P E N H0 x k Q 2) (postW P E N H0 k Q)) := nrf rfl
@[congr] theorem UN_congr {x : CC} {n : Nat} {U : Tr AV} {G : Heap} (h : T = U) (h2 : H = G) : UN P E N H0 x k Q n T H = UN P E N H0 x k Q n U G := by rw [h, h2]
/-- a call that is known, two calls that are known: for regions that draw their order -/
theorem withE_eq (E : FuncId → List AV → Heap → RC) (f : FuncId) (args : List AV) (H : Heap) (v : AV) (G : Heap) : withE E f args H v G f args H = .ok v G := by
  unfold withE
  rw [if_pos ⟨rfl, rfl, rfl⟩]
theorem withE_ne {E : FuncId → List AV → Heap → RC} {f g : FuncId} (h : g ≠ f) (args a : List AV) (H J : Heap) (v : AV) (G : Heap) : withE E f args H v G g a J = E g a J := by
  unfold withE
  rw [if_neg fun e => h e.1]
theorem one_call {f : FuncId} {a : List AV} {v : AV} {G : Heap} (h : FnOk P f a H fun r J => r = v ∧ J = G) : ∃ E : FuncId → List AV → Heap → RC, Good P E ∧ E f a H = .ok v G := ⟨withE E0 f a H v G, good_withE good_E0 h, withE_eq ..⟩
theorem two_calls {f g : FuncId} (hne : g ≠ f) {a b : List AV} {v u : AV} {H2 G G2 : Heap} (h : FnOk P f a H fun r J => r = v ∧ J = G) (h2 : FnOk P g b H2 fun r J => r = u ∧ J = G2) :
    ∃ E : FuncId → List AV → Heap → RC, Good P E ∧ E f a H = .ok v G ∧ E g b H2 = .ok u G2 := ⟨withE (withE E0 f a H v G) g b H2 u G2, good_withE (good_withE good_E0 h) h2, by rw [withE_ne (Ne.symm hne), withE_eq], withE_eq ..⟩
end Go.Ev
/- a node's shards, its base, where there is one shard: walked. -/


set_option linter.all false
set_option maxRecDepth 100000
namespace Go.Proofs
open Go Go.Ev
variable {H : Heap}
section
variable {G : Heap} {k : K}
theorem f44_base1 (h : isHd G k .nils .nils [] []) {v : AV} {s : Sh} (hA : Arr G 8 v [s.enc]) (ho : s.ok G) (hs : isSh s) (hsm : smallS s) :
    FnOk Tryz.prog 44 [.ptr k 0, .agg [.int .i64 1, .int .i64 0, .int .i64 0, .int .i64 0, .int .i64 0, .int .i64 0, .int .i64 0, .str [], .str [], .str [], .int .i64 0, .nils, .str [], .str [], v, .nils]] G fun r G' => r = .tup [.agg zA, .nili] ∧ (∃ lv', ∃ cv ev dv : K, isHd G' k lv' .nils [s.cop cv ev dv] []) ∧ Nx k G G' := by
  refine FnOk.of_WW Tryz.func44 rfl C44ok R44ok E0 good_E0 ?_
  have hk : ∀ L, (G.ext L).get k = _ := fun L => Heap.get_ext_old h.ok h.row L
  simp only [go_sem, C44, hk]
  refine CL.of (f109_one (h.ext _) (hA.ext _) (ho.ext _) hs hsm) ?_
  rintro _ G' ⟨rfl, ⟨lv', cv, ev, dv, hhd⟩, hnx⟩
  have e1 := hnx.keep (G.key 1) _ (ne_key h.ok h.row 1) (get_lit rfl)
  have e3 := hnx.keep (G.key 3) _ (ne_key h.ok h.row 3) (get_lit rfl)
  have g1 := fun L => Heap.get_ext_old hhd.ok e1 L
  have g3 := fun L => Heap.get_ext_old hhd.ok e3 L
  have s1 := fun b (l : List Blk) (α : Type) (c' : Heap → α) => Heap.setC_here hhd.ok e1 b l c'
  have k1 := fun b (l : List Blk) => Heap.get_set_here hhd.ok e1 b l
  refine WW.nil ?_
  simp only [go_sem]
  refine CL.of (f113_none _) ?_
  rintro _ G' ⟨rfl, hG⟩; rw [hG]; clear hG
  simp only [go_sem]
  refine CL.of (f65_ok none 10) ?_
  rintro _ G' ⟨rfl, hG⟩; rw [hG]; clear hG
  simp only [go_sem, g1, g3, s1, k1]
  exact ⟨rfl, ⟨lv', cv, ev, dv, (hhd.cell e1 _).ext _⟩, ((Nx.ext h.ok _).trans hnx).cell h.ok hhd.ok e1 _ _⟩
/-- what comes of it -/
noncomputable def shL (G : Heap) (s : Sh) : List Blk := [.row true 8 [s.enc], zB (nilB s.cv) 5 (s.cells.map Cell.enc), zB (nilB s.ev) 4 (s.evs.map Evn.enc), zB (nilB s.dv) 6 (s.done.map Dn.enc), .row true 8 [(s.cop (G.key 1) (G.key 2) (G.key 3)).enc], .row true 8 [(s.cop (G.key 1) (G.key 2) (G.key 3)).enc]]
theorem f13_one {lv gv : AV} {gs : List Gn} {s : Sh} (h : isHd G k lv gv [s] gs) :
    FnOk Tryz.prog 13 [.ptr k 0] G fun r G' => r = .slice (G.key 5) 0 1 8 false 1 ∧ G' = G.ext (shL G s) := by
  refine FnOk.of_WW Tryz.func13 rfl C13ok R13ok ECq good_ECq ?_
  have hk : ∀ L, (G.ext L).get k = _ := fun L => Heap.get_ext_old h.ok h.row L
  have hA := h.l
  have hlen := fun G => hA.len G
  have ho := h.each s (List.mem_singleton_self _)
  have hsm := h.small s (List.mem_singleton_self _)
  obtain ⟨kk, r, ex', cap', wr, rows, hv, hrho, hgo, hrow⟩ := hA.at h.ok (j := 0) (Nat.zero_lt_succ _)
  have hrow : rows[r]? = some [.int .i64 s.id, .int .i64 s.ep, .str s.fr, .str s.to, .bool s.frz, s.cv, s.ev, s.dv] := hrow
  have hv : lv = .slice kk (r * 8) 1 8 ex' cap' := hv
  simp only [go_sem, C13, hk, hlen]
  have hw01 : IntKind.i64.wrap (0 + 1) = 1 := rfl
  have ec := fun L => ecq (ho.ext L) hsm
  refine LL.un good_ECq 1 ?_
  simp only [go_sem, hv, hk, hgo, hrow, ec, hw01]
  refine CL.of (f45_ok (ho.ext _) hsm) ?_
  rintro _ G' ⟨rfl, hG⟩; rw [hG]; clear hG
  simp only [go_sem, hv, hk, hgo, hrow, hw01, Sh.cop, Sh.enc, copB, Heap.key_ext]
  rfl
theorem Sh.alike {s t : Sh} (hs : s.ok H) (ht : t.ok H) (h : s.enc = t.enc) : shL H s = shL H t := by
  obtain ⟨id, ep, fr, to, frz, cells, evs, done, cv, ev, dv⟩ := t
  simp only [Sh.enc, List.cons.injEq, AV.int.injEq, AV.str.injEq, AV.bool.injEq, true_and, and_true] at h
  obtain ⟨h1, h2, h3, h4, h5, h6, h7, h8⟩ := h
  have u1 := hs.c.uniq (by rw [h6]; exact ht.c) (by decide)
  have u2 := hs.e.uniq (by rw [h7]; exact ht.e) (by decide)
  have u3 := hs.d.uniq (by rw [h8]; exact ht.d) (by decide)
  have l1 := congrArg List.length u1
  have l2 := congrArg List.length u2
  have l3 := congrArg List.length u3
  simp only [List.length_map] at l1 l2 l3
  simp only [shL, Sh.cop, Sh.enc, h1, h2, h3, h4, h5, h6, h7, h8, u1, u2, u3, l1, l2, l3]
theorem isHd.alike {lv gv lv' gv' : AV} {gs gs' : List Gn} {s t : Sh} (h : isHd H k lv gv [s] gs) (g : isHd H k lv' gv' [t] gs') : shL H s = shL H t := by
  have e := h.row
  rw [g.row] at e
  simp only [Option.some.injEq, Blk.row.injEq, List.cons.injEq, and_true, true_and] at e
  obtain ⟨rfl, rfl⟩ := e
  have u := h.l.uniq g.l (by decide)
  simp only [List.map_cons, List.map_nil, List.cons.injEq, and_true] at u
  exact Sh.alike (h.each s (List.mem_singleton_self _)) (g.each t (List.mem_singleton_self _)) u
open Classical in
/-- a node's shards, where there is one -/
noncomputable def EBs : FuncId → List AV → Heap → RC := fun f args H =>
  if h : f = 13 ∧ ∃ (k : K) (s : Sh) (lv gv : AV) (gs : List Gn), args = [.ptr k 0] ∧ isHd H k lv gv [s] gs then .ok (.slice (H.key 5) 0 1 8 false 1) (H.ext (shL H h.2.choose_spec.choose))
  else if f = 126 ∧ args = [.nils] then .ok .nils H else .fail
theorem good_EBs : Ev.Good Tryz.prog EBs := by
  intro f args H r G he φ w args' ha hw
  refine (?_ : FnOk Tryz.prog f args H fun v' G' => v' = r ∧ G' = G).one φ w args' ha hw
  unfold EBs at he
  split at he
  · rename_i h
    obtain ⟨rfl, _⟩ := id h
    obtain ⟨lv, gv, gs, e1, e2⟩ := h.2.choose_spec.choose_spec
    cases he
    generalize h.2.choose_spec.choose = s at e1 e2
    generalize h.2.choose = k at e1 e2
    rw [e1]
    exact f13_one e2
  · split at he
    · rename_i h
      obtain ⟨rfl, rfl⟩ := h
      cases he
      exact clone_nil clo42
    · cases he
theorem eb21 {lv gv : AV} {gs : List Gn} {s : Sh} (h : isHd H k lv gv [s] gs) : EBs 13 [.ptr k 0] H = .ok (.slice (H.key 5) 0 1 8 false 1) (H.ext (shL H s)) := by
  have hx : 13 = 13 ∧ ∃ (k' : K) (s : Sh) (lv gv : AV) (gs : List Gn), [AV.ptr k 0] = [.ptr k' 0] ∧ isHd H k' lv gv [s] gs := ⟨rfl, k, s, lv, gv, gs, rfl, h⟩
  unfold EBs
  rw [dif_pos hx]
  obtain ⟨lv', gv', gs', e1, e2⟩ := hx.2.choose_spec.choose_spec
  generalize hx.2.choose_spec.choose = t at e2 ⊢
  generalize hx.2.choose = k' at e1 e2
  simp only [List.cons.injEq, AV.ptr.injEq, and_true] at e1
  subst e1
  rw [h.alike e2]
theorem eb116 (H : Heap) : EBs 126 [.nils] H = .ok .nils H := by
  unfold EBs
  rw [dif_neg (by rintro ⟨h, _⟩; cases h), if_pos ⟨rfl, rfl⟩]
/-- the record of all there is -/
def baseL (v w : AV) : List AV := [.int .i64 1, .int .i64 0, .int .i64 0, .int .i64 0, .int .i64 0, .int .i64 0, .int .i64 0, .str [], .str [], .str [], .int .i64 0, .nils, .str [], .str [], v, w]
theorem f55_one {lv : AV} {s : Sh} (h : isHd G k lv .nils [s] []) :
    FnOk Tryz.prog 55 [.ptr k 0] G fun r G' => ∃ (c cv ev dv : K) (L : List Blk), r = .agg (baseL (.slice c 0 1 8 false 1) .nils) ∧ G' = G.ext L ∧ Arr G' 8 (.slice c 0 1 8 false 1) [(s.cop cv ev dv).enc] ∧ (s.cop cv ev dv).ok G' := by
  refine FnOk.of_WW Tryz.func55 rfl C55ok R55ok EBs good_EBs ?_
  have hk : ∀ L, (G.ext L).get k = _ := fun L => Heap.get_ext_old h.ok h.row L
  have ec := fun L => eb21 (h.ext L)
  have ho := h.each s (List.mem_singleton_self _)
  simp only [go_sem, C55, hk, ec, eb116, shL, Heap.key_ext]
  refine ⟨_, _, _, _, _, rfl, rfl, arr_row (i := 6) rfl rfl, Sh.cop_ok ho (i := 2) (j := 3) (m := 4) rfl rfl rfl⟩
end
end Go.Proofs
/- A node; a record noted: walked. -/

set_option linter.all false
set_option maxRecDepth 100000
namespace Go.Proofs
open Go Go.Ev
variable {H : Heap}
section
variable {k kd : K} {wr : Bool}
theorem f66_ok {b s : List Nat} {n m : Nat} (hk : H.get k = some (.row true 2 [[.ptr kd 0, .int .i64 m]])) (hd : H.get kd = some (.row true 2 [[.str b, .int .i64 n]])) (hl : b.length + (wrapT s).length ≤ 200000) (hn : n ≤ b.length) (hm : m < 1000000) (hs : s.length < 1000000) :
    FnOk Tryz.prog 66 [.ptr k 0, .str s] H fun r G => r = .nili ∧ G = (H.set kd (.row true 2 [[.str (b ++ wrapT s), .int .i64 ((n + (wrapT s).length : Nat) : Int)]])).set k (.row true 2 [[.ptr kd 0, .int .i64 ((m + 1 : Nat) : Int)]]) := by
  refine FnOk.assume fun hok => ?_
  have hne : kd ≠ k := by
    rintro rfl
    rw [hk] at hd
    cases hd
  have hk' := fun L => Heap.get_ext_old hok hk L
  have hd' := fun b L => Heap.get_set_here hok hd b L
  have hkk := fun b L => Heap.get_set_there hok hk hne b L
  have hset := fun (b c : Blk) (l : List Blk) (α : Type) (c' : Heap → α) => Heap.setC_here (α := α) (Heap.ok_set hok hd (b := b)) (by have := hkk b []; rwa [Heap.ext_nil] at this) c l c'
  have hw : IntKind.i64.wrap ((m : Int) + 1) = ((m + 1 : Nat) : Int) := by rw [wrap_i64 (by omega) (by omega)]; omega
  obtain ⟨E1, hE1, e1, e2⟩ := two_calls (P := Tryz.prog) (f := 120) (g := 139) (by decide) (H := H) (H2 := H) (f120_ok hs) (f139_ok hd hl hn)
  have e1 : E1 120 [.str s] (H.ext []) = .ok (.str (wrapT s)) (H.ext []) := e1
  have e2 : E1 139 [.ptr kd 0, .str (wrapT s)] (H.ext []) = .ok .nili ((H.set kd (.row true 2 [[.str (b ++ wrapT s), .int .i64 ((n + (wrapT s).length : Nat) : Int)]])).ext []) := e2
  refine FnOk.of_WW Tryz.func66 rfl C66ok R66ok E1 hE1 ?_
  simp only [go_sem, C66, hk', e1, e2, hkk, hset, hw]
  rfl
end
end Go.Proofs
/- a put asked of a node of one shard: what is there behind it, exactly. -/

set_option linter.all false
set_option maxRecDepth 100000
namespace Go.Proofs
open Go Go.Ev
variable {H : Heap}
section
variable {G : Heap} {k : K} {lv gv : AV} {gs : List Gn} {e : Int} {i : Nat} {s : Sh}
theorem f174_sameE {o s : Sh} (h : isHd G k lv gv [o] gs) (hid : o.id = s.id) (hs : s.ok G) (hsm : smallS s) : ∃ X, FnOk Tryz.prog 174 [.ptr k 0, .agg s.enc] G (fun r G' => r = .tup [] ∧ G' = X) ∧ (∃ lv', isHd X k lv' gv [s] gs) ∧ Nx k G X := by
  have hput := fun L (hj : L[1]? = some (.row true 8 ([s].map Sh.enc))) => isHd.put (hs' := [s]) h (L := L) (j := 1) hj (fun x hx => by rw [List.mem_singleton.1 hx]; exact hs) (fun x hx => by rw [List.mem_singleton.1 hx]; exact hsm) (by show 1 ≤ 8; decide) 1 false
  refine ⟨?X, ?a, ?b⟩
  case a =>
    refine FnOk.of_WW Tryz.func174 rfl C174ok R174ok E0 good_E0 ?_
    have hk : ∀ L, (G.ext L).get k = _ := fun L => Heap.get_ext_old h.ok h.row L
    have hset := fun b (l : List Blk) (α : Type) (c' : Heap → α) => Heap.setC_here h.ok h.row b l c'
    have hset2 := fun b d (l : List Blk) (α : Type) (c' : Heap → α) => Heap.setC_set_here h.ok h.row b d l c'
    have hk2 := fun b (l : List Blk) => Heap.get_set_here h.ok h.row b l
    simp only [go_sem, C174, hk, Sh.enc]
    refine CL.of (clone_zd clo97 (h.l.ext _) (by show (2 * 1 + 192) * 128 ≤ 281474976710656; decide) (fun top σ => shs_rens (fun s hs => (h.each s hs).ext _) top σ)) ?_
    rintro _ _ ⟨rfl, rfl⟩
    simp only [go_sem, zV_pos (show 0 < 0 + 1 from Nat.zero_lt_succ 0), zB_pos (show 0 < [o.enc].length from Nat.zero_lt_succ 0)]
    refine CL.of (f220_only (q := fun o => decide (o.id = s.id)) (Heap.ok_ext h.ok _) (get_lit rfl) (fun _ _ => call222 ..) (fun top σ => by exact cap_lit (Nat.zero_lt_succ _) 222 top σ) (fun L => by exact f222_ok (s := s) (get_lit2 rfl) o) (decide_eq_true hid)) ?_
    rintro _ G' ⟨rfl, hG⟩
    rw [hG, Heap.set_ext_key _ _ _ _ (by exact Nat.lt_succ_self 1)]
    clear hG
    simp only [go_sem, hk, hset, hset2, hk2]
    refine CL.of (f170_ok (hput _ (by rfl)) (Nat.le_refl 1)) ?_
    rintro _ G' ⟨rfl, hG⟩; rw [hG]; clear hG
    simp only [go_sem]
    exact rfl
  case b => exact ⟨⟨_, hput _ rfl⟩, Nx.set h.ok h.row _ _⟩
end
end Go.Proofs
/- A put noted by a node: walked. -/


set_option linter.all false
set_option maxRecDepth 100000
namespace Go.Proofs
open Go Go.Ev
variable {H : Heap}
section
variable {G : Heap} {kn kd kj kh : K}
/-- what there was is there still, but for some blocks -/
structure Kp (ks : List K) (G G' : Heap) : Prop where
  keep : ∀ j b, j ∉ ks → G.get j = some b → G'.get j = some b
  le : G.nx.toNat ≤ G'.nx.toNat
/-- another node is as it was -/
theorem isHd.other {G : Heap} {k : K} {lv gv : AV} {hs : List Sh} {gs : List Gn} {k2 : K} {G' : Heap} {lv2 gv2 : AV} {hs2 : List Sh} {gs2 : List Gn} (h : isHd G k lv gv hs gs) (h2 : isHd G k2 lv2 gv2 hs2 gs2) (hne : k2 ≠ k) (hok' : G'.ok) (hn : Nx k G G') : isHd G' k2 lv2 gv2 hs2 gs2 := by
  refine ⟨hok', hn.keep _ _ (Ne.symm hne) h2.row, hn.arr h.row (by decide) h2.l, ?_, fun s hs => hn.sh h.row (h2.each s hs) (h2.small s hs), h2.small, h2.few⟩
  rcases h2.g with ⟨e1, e2⟩ | ⟨j, off, ex, cap, rfl, hj, hx⟩
  · exact .inl ⟨e1, e2⟩
  · refine .inr ⟨j, off, ex, cap, rfl, Nat.lt_of_lt_of_le hj hn.le, fun hxs => ?_⟩
    obtain ⟨r, wr, rows, e1, e2, e3⟩ := hx hxs
    refine ⟨r, wr, rows, e1, hn.keep j _ (fun e => ?_) e2, e3⟩
    subst e
    rw [h.row] at e2
    cases e2
    have hl := h.l
    cases gs2 with
    | nil => exact hxs rfl
    | cons c l =>
      cases r with
      | zero =>
        have h6 := congrArg (fun z => z[0]?) e3
        simp only [List.map_cons, List.length_cons, List.drop_zero, List.take_succ_cons, List.getElem?_cons_zero, Gn.enc] at h6
        have h7 := Option.some.inj h6
        injection h7 with h7 _
        subst h7
        rcases hl with ⟨e, _⟩ | ⟨_, _, _, _, e, _⟩ <;> cases e
      | succ r => simp at e3
theorem Nx.kp {G G' : Heap} {i : Nat} {L : List Blk} (hok : G.ok) (h : Nx (G.key i) (G.ext L) G') : Kp [] G G' :=
  ⟨fun j b _ hb => h.keep j b (fun e => ne_key hok hb i e.symm) (Heap.get_ext_old hok hb L), Nat.le_trans (by rw [Heap.nx_ext, Heap.toNat_key]; exact Nat.le_add_right _ _) h.le⟩
theorem Kp.nx {G A B : Heap} {i : Nat} {L : List Blk} (h : Kp [] G A) (hok : G.ok) (hA : A.ok) (h2 : Nx (G.key i) (A.ext L) B) : Kp [] G B :=
  ⟨fun j b _ hb => h2.keep j b (fun e => ne_key hok hb i e.symm) (Heap.get_ext_old hA (h.keep j b List.not_mem_nil hb) L), Nat.le_trans h.le (Nat.le_trans (by rw [Heap.nx_ext, Heap.toNat_key]; exact Nat.le_add_right _ _) h2.le)⟩
theorem isHd.set2 {G : Heap} {k : K} {lv gv : AV} {hs : List Sh} {gs : List Gn} (h : isHd G k lv gv hs gs) {j : K} {wr : Bool} {x y : AV} (hj : G.get j = some (.row wr 2 [[x, y]])) (hx : ∀ n, x ≠ .int .i64 n) (hne : j ≠ k) (b : Blk) : isHd (G.set j b) k lv gv hs gs := by
  refine ⟨Heap.ok_set h.ok hj, ?_, h.l.set hj (by decide), ?_, fun s hs => ?_, h.small, h.few⟩
  · rw [Heap.get_set, if_neg hne]; exact h.row
  · rcases h.g with g | ⟨i, off, ex, cap, hv, hi, g⟩
    · exact .inl g
    · refine .inr ⟨i, off, ex, cap, hv, hi, fun hxs => ?_⟩
      obtain ⟨r, wr', rows', h1, h2, h3⟩ := g hxs
      refine ⟨r, wr', rows', h1, ?_, h3⟩
      rw [Heap.get_set, if_neg fun e => ?_]
      · exact h2
      · subst e
        rw [hj] at h2
        cases h2
        cases gs with
        | nil => exact hxs rfl
        | cons c l =>
          cases r with
          | zero =>
            have h6 := congrArg (fun z => z[0]?) h3
            simp only [List.map_cons, List.length_cons, List.drop_zero, List.take_succ_cons, List.getElem?_cons_zero, Gn.enc] at h6
            have h7 := Option.some.inj h6
            injection h7 with h7 _
            exact hx _ h7
          | succ r => simp at h3
  · have hs' := h.each s hs
    exact ⟨hs'.c.set hj (by decide), hs'.e.set hj (by decide), hs'.d.set hj (by decide), bareL.ok (h.small s hs).b _, hs'.cl, hs'.el, hs'.dl⟩
end
end Go.Proofs
/- Known answers handed to the evaluator; slices.Insert at a slice of one's own. -/

set_option linter.all false
namespace Go.Ev
variable {P : Program} {φ : Phi} {H : Heap}

noncomputable def X0 : Orc := fun _ _ _ => none
theorem good_X0 : GoodX P X0 := fun _ _ _ _ h => by cases h
/-- one function more is known -/
noncomputable def orX (F : FuncId) (A : List AV → Heap → Option RC) (X : Orc) : Orc := fun f args H => bif' (Nat.beq f F) (A args H) (X f args H)
theorem good_orX {F : FuncId} {A : List AV → Heap → Option RC} {X : Orc} (hA : ∀ args H v G, A args H = some (.ok v G) → FnOk P F args H fun v' G' => v' = v ∧ G' = G) (hX : GoodX P X) : GoodX P (orX F A X) := by
  intro f args H r h v G hr
  unfold orX at h
  cases hb : Nat.beq f F with
  | true =>
    rw [hb, bif_true] at h
    have := Nat.eq_of_beq_eq_true hb; subst this; subst hr
    exact hA args H v G h
  | false => rw [hb, bif_false] at h; exact hX f args H r h v G hr

noncomputable def insOwnA (esz bytes : Nat) (x : List AV) (kv k : K) (m n : Nat) (rows : List (List AV)) (H : Heap) : Option RC :=
  bif' (Nat.beq rows.length n) (bif' (K.beq kv k) none (bif' (Nat.ble m n) (bif' (Nat.ble (n + 1) 4294967295) (bif' (Nat.ble ((2 * (n + 1) + 192) * bytes) 281474976710656)
    (fL (rows.take m ++ x :: rows.drop m) fun rows => H.setC k .dead fun H => H.addC (.row true esz rows) fun k H => fN (n + 1) fun n => some (.ok (.slice k 0 n esz false n) H)) none) none) none)) none
noncomputable def insA (esz bytes : Nat) (args : List AV) (H : Heap) : Option RC :=
  match args with
  | [s, .int .i64 (.ofNat m), .slice kv 0 1 es true 1] => bif' (Nat.beq es esz) (match H.get kv with
    | some (.row true es1 [x]) => bif' (Nat.beq es1 esz) (match s with
      | .nils => bif' (Nat.beq m 0) (bif' (Nat.ble (194 * bytes) 281474976710656) (H.addC (.row true esz [x]) fun k H => some (.ok (.slice k 0 1 esz false 1) H)) none) none
      | .slice k 0 n es2 ex cap => bif' (Nat.beq es2 esz) (match H.get k with
        | some (.row true es3 rows) => bif' (Nat.beq es3 esz) (match n, ex, rows with
          | 0, true, [] => bif' (Nat.beq cap 0) (bif' (Nat.beq m 0) (bif' (Nat.ble (194 * bytes) 281474976710656) (H.addC (.row true esz [x]) fun k H => some (.ok (.slice k 0 1 esz false 1) H)) none) none) none
          | n + 1, false, rows => bif' (Nat.beq cap (n + 1)) (insOwnA esz bytes x kv k m (n + 1) rows H) none
          | _, _, _ => none) none
        | _ => none) none
      | _ => none) none
    | _ => none) none
  | _ => none
theorem insA_sound {F : FuncId} {esz bytes : Nat} {zero : List AV} (hf : InsFn P F esz bytes zero) (args : List AV) (H : Heap) (v : AV) (G : Heap) (h : insA esz bytes args H = some (.ok v G)) : FnOk P F args H fun v' G' => v' = v ∧ G' = G := by
  unfold insA at h
  split at h
  case h_2 => cases h
  rename_i s m kv es
  have b1 : ∀ {α : Type} (a b : Nat) (x : Option α) (y : α), bif' (Nat.beq a b) x none = some y → a = b ∧ x = some y := by
    intro α a b x y e
    cases hb : Nat.beq a b with
    | true => rw [hb] at e; exact ⟨Nat.eq_of_beq_eq_true hb, e⟩
    | false => rw [hb] at e; cases e
  have b2 : ∀ {α : Type} (a b : Nat) (x : Option α) (y : α), bif' (Nat.ble a b) x none = some y → a ≤ b ∧ x = some y := by
    intro α a b x y e
    cases hb : Nat.ble a b with
    | true => rw [hb] at e; exact ⟨Nat.le_of_ble_eq_true hb, e⟩
    | false => rw [hb] at e; cases e
  obtain ⟨rfl, h⟩ := b1 _ _ _ _ h
  split at h
  case h_2 => cases h
  rename_i es1 x hv
  obtain ⟨rfl, h⟩ := b1 _ _ _ _ h
  split at h
  case h_3 => cases h
  · obtain ⟨rfl, h⟩ := b1 _ _ _ _ h
    obtain ⟨hb, h⟩ := b2 _ _ _ _ h
    rw [Heap.addC_eq] at h
    cases h
    exact insert_nil hf hv hb
  · rename_i k n es2 ex cap g1 g2
    clear g1 g2
    obtain ⟨rfl, h⟩ := b1 _ _ _ _ h
    split at h
    case h_2 => cases h
    rename_i es3 rows hg
    obtain ⟨rfl, h⟩ := b1 _ _ _ _ h
    split at h
    case h_3 => cases h
    · obtain ⟨e1, h⟩ := b1 _ _ _ _ h
      obtain ⟨e2, h⟩ := b1 _ _ _ _ h
      obtain ⟨hb, h⟩ := b2 _ _ _ _ h
      rw [Heap.addC_eq] at h
      cases h
      rw [e1, e2]
      exact insert_zero hf hv hg hb
    · rename_i n rows'
      obtain ⟨e1, h⟩ := b1 _ _ _ _ h
      rw [e1]
      unfold insOwnA at h
      obtain ⟨hl, h⟩ := b1 _ _ _ _ h
      cases hk : K.beq kv k with
      | true => rw [hk] at h; cases h
      | false =>
      rw [hk, bif_false] at h
      have hkk : kv ≠ k := fun e => by rw [(K.beq_iff _ _).2 e] at hk; cases hk
      obtain ⟨hm, h⟩ := b2 _ _ _ _ h
      obtain ⟨hn, h⟩ := b2 _ _ _ _ h
      obtain ⟨hb, h⟩ := b2 _ _ _ _ h
      rw [fL_eq, Heap.setC_eq, Heap.addC_eq, fN_eq] at h
      cases h
      have := insert_own hf hkk hv hg (by omega) (by omega) (by omega) (by rw [hl]; exact hb) (i := m)
      rw [hl] at this
      exact this
end Go.Ev
/- Known answers: errors.Is and errors.As at numbers. -/

set_option linter.all false
namespace Go.Ev
variable {P : Program} {φ : Phi} {H : Heap} {w : World}
/-- errors.Is of a number (of type t), or none -/
noncomputable def isA (t : Nat) (args : List AV) (H : Heap) : Option RC :=
  match args with
  | [.nili, .iface t2 (.int .i64 b)] => bif' (Nat.beq t2 t) (some (.ok (.bool false) H)) none
  | [.iface t1 (.int .i64 a), .iface t2 (.int .i64 b)] => bif' (Nat.beq t1 t) (bif' (Nat.beq t2 t) (eqI a b fun z => some (.ok (.bool z) H)) none) none
  | _ => none
/-- errors.As of a number (of type t), or none, at a number's pointer (of type tp), at one of another type (tb) -/
noncomputable def asA (t tp tb : Nat) (args : List AV) (H : Heap) : Option RC :=
  match args with
  | [.nili, _] => some (.ok (.bool false) H)
  | [.iface t1 (.int .i64 a), .iface t2 (.ptr k 0)] => bif' (Nat.beq t1 t) (bif' (Nat.beq t2 tb) (some (.ok (.bool false) H)) (bif' (Nat.beq t2 tp)
    (match H.get k with
      | some (.row true 1 [[x]]) => H.setC k (.row true 1 [[.int .i64 a]]) fun H => some (.ok (.bool true) H)
      | _ => none) none)) none
  | _ => none
theorem cell_of_row (hw : WRel P φ H w) {k : K} {x : AV} {a : At} (hk : H.get k = some (.row true 1 [[x]])) (hφ : φ k = some a) : ∃ v, w.cell? ⟨a.b, a.o, none⟩ = some v ∧ VRel P φ x v ∧ w.frozen? ⟨a.b, a.o, none⟩ = false := by
  obtain ⟨hp, _, pre, vs, post, e, lo, hi, g1, g2, g3, g4, g5, g6⟩ := hw.blk k _ a hk hφ
  have g5 : VRels P φ [x] vs := g5
  cases g5 with
  | cons _ _ v l h1 h2 =>
    cases h2
    refine ⟨v, ?_, h1, ?_⟩
    · simp only [World.cell?, g1]
      simp [← g2]
    · simp only [World.frozen?, g1]
      have h4 := g4 rfl
      simp at g3 ⊢
      omega
/-- a call that writes a number into a cell -/
theorem FnOk.of_calls_set {f : FuncId} {args : List AV} {k : K} {x y v : AV} {y' : Value} (hk : H.get k = some (.row true 1 [[x]])) (hy : ∀ φ, VRel P φ y y') (hone : y'.oneCell' = true) (hv : ∀ φ, ∃ v', VRel P φ v v')
    (h : ∀ φ w args', VRels P φ args args'.toList → WRel P φ H w → ∃ a, φ k = some a ∧ ∀ old, w.cell? ⟨a.b, a.o, none⟩ = some old → w.frozen? ⟨a.b, a.o, none⟩ = false →
      Calls P f args' w fun e u => (∃ v', e = .returned v' ∧ VRel P φ v v') ∧ ∃ w4, Grows w w4 ∧ u = w4.setCell ⟨a.b, a.o, none⟩ y') :
    FnOk P f args H fun r G => r = v ∧ G = H.set k (.row true 1 [[y]]) := by
  intro φ w args' ha hw
  obtain ⟨a, hφ, hc⟩ := h φ w args' ha hw
  obtain ⟨old, h1, _, h2⟩ := cell_of_row hw hk hφ
  refine (hc old h1 h2).mono ?_
  rintro e u ⟨⟨v', rfl, hv'⟩, w4, hg, rfl⟩
  have hw4 := hw.grows hg.size hg.old
  obtain ⟨old4, h14, _, h24⟩ := cell_of_row hw4 hk hφ
  obtain ⟨u, hst, hwu, hE⟩ := storeCells_sound (off := 0) (vals := [y]) (vals' := [y']) (rows' := [[y]]) hw4 hk hφ (.cons _ _ _ _ (hy φ) .nil) (by intro z hz; rw [List.mem_singleton.1 hz]; exact hone) (put_rows 1 [[x]] [[y]] 0 (by intro z hz; rw [List.mem_singleton.1 hz]; rfl) (by intro z hz; rw [List.mem_singleton.1 hz]; rfl) (Nat.le_refl 1))
  have hst' : (storeCells ⟨a.b, a.o, none⟩ [y']).run P w4 = .ok () (w4.setCell ⟨a.b, a.o, none⟩ y') := by
    simp only [storeCells, Addr.add, Sem.run_bind, Nat.add_zero, if_true]
    rw [run_store P w4 _ _ _ hone, h14]
    simp [h24]
  rw [Nat.add_zero] at hst
  rw [hst] at hst'
  injection hst' with _ hu
  subst hu
  refine ⟨v, _, ⟨rfl, rfl⟩, φ, v', rfl, hv', hwu, ?_⟩
  exact ⟨hE.phi, hE.nx, Nat.le_trans hg.size hE.size, fun b hb hn => by rw [hE.keeps b (Nat.lt_of_lt_of_le hb hg.size) hn, hg.old b hb], hE.hidden, fun b hb ho => hE.own b (Nat.lt_of_lt_of_le hb hg.size) ho, hE.os.trans hg.os, hE.tape.trans hg.tape, hE.output.trans hg.output⟩
theorem two_args {φ : Phi} {a b : AV} {args : Array Value} (h : VRels P φ [a, b] args.toList) : ∃ v u, args = #[v, u] ∧ VRel P φ a v ∧ VRel P φ b u := by
  cases hl : args.toList with
  | nil => rw [hl] at h; cases h
  | cons v l =>
    rw [hl] at h
    cases h with
    | cons _ _ _ _ h1 h2 =>
      cases h2 with
      | cons _ _ u _ h3 h4 =>
        cases h4
        exact ⟨v, u, by rw [← Array.toArray_toList (xs := args), hl], h1, h3⟩
/-- the answer is yes -/
noncomputable def okB (r : RC) : Bool := RC.rec (motive := fun _ => Bool) false (fun v _ => asBoolC v false fun b => b) r
theorem okB_eq {r : RC} (h : okB r = true) : ∃ G, r = .ok (.bool true) G := by
  cases r with
  | fail => cases h
  | ok v G =>
    cases v <;> first | (cases h; done) | skip
    rename_i b
    cases b
    · cases h
    · exact ⟨G, rfl⟩
theorem FnOk.of_evB {X : Orc} (hX : GoodX P X) {n : Nat} {f : FuncId} {args : List AV} (h : okB (evFn P X n f args H) = true) : FnOk P f args H fun v _ => v = .bool true := by
  obtain ⟨G, hG⟩ := okB_eq h
  exact (FnOk.of_ev hX hG).mono fun _ _ h => h.1
end Go.Ev
/- What is still to be done, reckoned. -/

set_option linter.all false
namespace Go.Ev
variable {P : Program} {φ ψ : Phi} {H : Heap} {w u : World} {T : Tr AV}

/-- of all numbers below n -/
noncomputable def allN (n : Nat) (f : Nat → Bool) : Bool := Nat.rec (motive := fun _ => Bool) true (fun i r => bif' (f i) r false) n
theorem allN_of {f : Nat → Bool} : ∀ {n : Nat}, allN n f = true → ∀ i, i < n → f i = true
  | 0, _, i, hi => absurd hi (Nat.not_lt_zero i)
  | n + 1, h, i, hi => by
    have h : bif' (f n) (allN n f) false = true := h
    cases hn : f n with
    | false => rw [hn] at h; cases h
    | true =>
      rw [hn] at h
      rcases Nat.lt_or_eq_of_le (Nat.le_of_lt_succ hi) with h1 | rfl
      · exact allN_of h i h1
      · exact hn
theorem allN2 {a b : Nat} {f : Nat → Nat → Bool} (h : allN a (fun i => allN b (f i)) = true) : ∀ i, i < a → ∀ j, j < b → f i j = true := fun i hi j hj => allN_of (allN_of h i hi) j hj
/-- the memory that is left -/
noncomputable def resH (r : RC) : Heap := RC.rec (motive := fun _ => Heap) hp0 (fun _ G => G) r
/-- is that what comes of it? -/
noncomputable def isR (r : RC) (v : AV) : Bool := RC.rec (motive := fun _ => Bool) false (fun w _ => eqAV w v) r
theorem FnOk.of_evV {X : Orc} (hX : GoodX P X) {n : Nat} {f : FuncId} {args : List AV} {v : AV} (h : isR (evFn P X n f args H) v = true) : FnOk P f args H fun v' G => v' = v ∧ G = resH (evFn P X n f args H) := by
  cases hr : evFn P X n f args H with
  | fail => rw [hr] at h; cases h
  | ok w G =>
    rw [hr] at h
    have h : eqAV w v = true := h
    rw [← eqAV_eq h]
    exact FnOk.of_ev hX hr
end Go.Ev
/- Calls whose arguments hold no address: reckoned without memory, they are so in any memory. -/

set_option linter.all false
namespace Go.Ev
variable {P : Program} {φ ψ : Phi} {H : Heap} {w u : World}
def AV.flat1 : AV → Bool
  | .agg l => l.all AV.flat
  | v => v.flat
theorem flat1_rel {v : AV} {x : Value} (hf : v.flat1 = true) (h : VRel P φ v x) (ψ : Phi) : VRel P ψ v x := by
  cases v with
  | agg l =>
    cases h with
    | agg _ c h1 h2 => exact .agg _ _ (flats_rel ψ hf h1) h2
  | _ => exact flat_rel (by exact hf) h ψ
theorem flats1_rel (ψ : Phi) {l : List AV} {l' : List Value} (hf : l.all AV.flat1 = true) (h : VRels P φ l l') : VRels P ψ l l' := by
  induction l generalizing l' with
  | nil => cases h; exact .nil
  | cons v l ih =>
    cases h with
    | cons _ _ v' l' h hs =>
      rw [List.all_cons, Bool.and_eq_true] at hf
      exact .cons _ _ _ _ (flat1_rel hf.1 h ψ) (ih hf.2 hs)
def AV.flat2 : AV → Bool
  | .tup l => l.all AV.flat1
  | v => v.flat1
theorem flat2_rel {v : AV} {x : Value} (hf : v.flat2 = true) (h : VRel P φ v x) (ψ : Phi) : VRel P ψ v x := by
  cases v with
  | tup l =>
    cases h with
    | tup _ c h1 => exact .tup _ _ (flats1_rel ψ hf h1)
  | _ => exact flat1_rel (by exact hf) h ψ
theorem FnOk.lift1 {f : FuncId} {args : List AV} {v : AV} (ha : args.all AV.flat1 = true) (hv : v.flat2 = true) (h : FnOk P f args hp0 fun r _ => r = v) : FnOk P f args H fun r G => r = v ∧ G = H := by
  intro φ w args' hargs hw
  refine (h (fun _ => none) w args' (flats1_rel _ ha hargs) hw.to0).mono ?_
  rintro e u ⟨_, G, rfl, ψ, x, rfl, hx, hwu, hE⟩
  have hno : ∀ b, b < w.heap.size → u.heap[b]? = w.heap[b]? := by
    intro b hb
    refine hE.keeps b hb ?_
    rintro ⟨k, c, a, hk, _⟩
    rw [hp0_get] at hk; cases hk
  exact ⟨_, H, ⟨rfl, rfl⟩, φ, x, rfl, flat2_rel hv hx φ, hw.grows hE.size hno, ⟨fun _ _ => rfl, Nat.le_refl _, hE.size, fun b hb _ => hno b hb, fun _ _ _ => rfl, fun _ _ h => h, hE.os, hE.tape, hE.output⟩⟩
/-- what is reckoned without memory -/
theorem FnOk.of_ev1 {X : Orc} (hX : GoodX P X) {n : Nat} {f : FuncId} {args : List AV} {v : AV} (ha : args.all AV.flat1 = true) (hv : v.flat2 = true) (h : isR (evFn P X n f args hp0) v = true) : FnOk P f args H fun r G => r = v ∧ G = H :=
  FnOk.lift1 ha hv ((FnOk.of_evV hX h).mono fun _ _ h => h.1)
end Go.Ev
