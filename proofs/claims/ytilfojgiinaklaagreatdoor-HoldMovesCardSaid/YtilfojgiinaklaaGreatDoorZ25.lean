/- CutOnce: walked. -/
import Derived.Test.YtilfojgiinaklaaGreatDoorZ24
set_option linter.all false
set_option linter.all false
set_option maxRecDepth 100000
namespace Go.Proofs
open Go Go.Ev
variable {H : Heap}

/-- a state of the loop: the shard's lists lie at these places -/
def St4 (H : Heap) (k : Nat) (q : Nat × Sh) : Prop := q.1 ≤ k ∧ AtI q.1 q.2 ∧ q.2.cv = outV (H.key 1) 5 q.2.cells.length ∧ q.2.ev = outV (H.key 2) 4 q.2.evs.length ∧ q.2.dv = outV (H.key 3) 6 q.2.done.length
theorem AtI.dok {i : Nat} {s : Sh} (h : AtI i s) (H : Heap) : allOk H s.done := by
  rw [h.done]
  split
  · exact fun d hd => absurd hd List.not_mem_nil
  · exact fun d hd => by rw [List.mem_singleton.1 hd]; exact putA_ok H _
theorem St4.ok {k : Nat} (hk : k ≤ 20) {q : Nat × Sh} (h : St4 H k q) {L : List Blk} (h1 : L[1]? = some (outB 5 (q.2.cells.map Cell.enc))) (h2 : L[2]? = some (outB 4 (q.2.evs.map Evn.enc))) (h3 : L[3]? = some (outB 6 (q.2.done.map Dn.enc))) : q.2.ok (H.ext L) where
  c := by rw [h.2.2.1]; exact arr_outV h1 (List.length_map ..)
  e := by rw [h.2.2.2.1]; exact arr_outV h2 (List.length_map ..)
  d := by rw [h.2.2.2.2]; exact arr_outV h3 (List.length_map ..)
  dok := h.2.1.dok _
  cl := by have := h.2.1.clen; omega
  el := by have := h.2.1.len; have := h.1; omega
  dl := by have := h.2.1.dlen; omega
theorem St4.next {k : Nat} {q : Nat × Sh} (h : St4 H k q) (hk : k ≤ 20) (hlt : q.1 < k) : St4 H k (q.1 + 1, askS q.2 [99] [118] 1 ((q.1 : Int) + 1) (H.key 1) (H.key 2) (H.key 3)) := by
  refine ⟨hlt, h.2.1.next (by omega) _ _ _, ?_, rfl, rfl⟩
  show outV _ 5 (refW _ _).length = outV _ 5 (keepC _ _).length
  rw [keepC_len]
theorem f143_yes {s : Sh} (h : s.ok H) (hd : s.done.length < 100000) (he : s.evs.length < 100000) {k : List Nat} {l r : Int} (g1 : okSplit s l r) (g2 : inSplit s k) :
    FnOk Tryz.prog 143 [.agg s.enc, .str k, .int .i64 l, .int .i64 r] H fun v G => ∃ a b L, v = .tup [.agg (Sh.enc a), .agg (Sh.enc b), .nili] ∧ G = H.ext L ∧ Sh.ok G a ∧ Sh.ok G b ∧ sameSh a (saidPart s l s.fr k) ∧ sameSh b (saidPart s r k s.to) := by
  refine (f143_ok h hd he k l r).mono ?_
  rintro v G ⟨rfl, rfl⟩
  unfold splitV splitB
  rw [if_pos g1, if_pos g2, if_pos ⟨g1, g2⟩]
  exact ⟨_, _, _, rfl, rfl, part_ok h l s.fr k (a := 0) (b := 1) (c := 2) rfl rfl rfl, part_ok h r k s.to (a := 3) (b := 4) (c := 5) rfl rfl rfl, ⟨rfl, rfl, rfl, rfl, rfl, rfl, rfl, rfl⟩, ⟨rfl, rfl, rfl, rfl, rfl, rfl, rfl, rfl⟩⟩
theorem askS_ok {s : Sh} {G : Heap} {L : List Blk} {i j q : Nat} {k v : List Nat} {ses id : Int} (hc : (refW s.cells (nextC s.cells k v false)).length < 10000) (he : s.evs.length < 10000) (hd : (withD s.done ⟨ses, id, putA ((getL s.cells k).1.ver + 1)⟩).length < 10000) (hdok : allOk G s.done) (h1 : L[i]? = some (outB 5 ((askS s k v ses id .z .z .z).cells.map Cell.enc))) (h2 : L[j]? = some (outB 4 ((askS s k v ses id .z .z .z).evs.map Evn.enc))) (h3 : L[q]? = some (outB 6 ((askS s k v ses id .z .z .z).done.map Dn.enc))) : (askS s k v ses id (G.key i) (G.key j) (G.key q)).ok (G.ext L) where
  c := arr_outV h1 (by rw [List.length_map]; exact keepC_len _ _)
  e := arr_outV h2 (List.length_map ..)
  d := arr_outV h3 (List.length_map ..)
  dok := (withD_ok hdok (putA_ok G _)).ext L
  cl := by show (keepC _ _).length < _; rw [keepC_len]; omega
  el := by show (List.drop _ _).length < _; rw [List.length_drop, List.length_append]; show s.evs.length + 1 - _ < _; omega
  dl := by show (withD _ _).length < _; omega
end Go.Proofs
/- a request that puts a key, at a node of one shard that has nothing in it: walked. -/


set_option linter.all false
set_option linter.all false
set_option maxRecDepth 100000
namespace Go.Proofs
open Go Go.Ev
variable {H : Heap}

theorem k_key : isKey [107] := ⟨by simp, by show (1 : Int) ≤ 8; decide⟩
/-- the shard behind that request -/
def aS (cv ev dv : AV) : Sh := ⟨1, 1, [], [], false, [⟨[107], [118], 1, false, 0⟩], [⟨[107], 1, [118], false⟩], [⟨0, 1, putA 1⟩], cv, ev, dv⟩
theorem aS_small (cv ev dv : AV) : smallS (aS cv ev dv) := ⟨fun d hd => by rw [List.mem_singleton.1 hd]; exact ⟨rfl, rfl⟩, Nat.lt_of_sub_eq_succ rfl, Nat.lt_of_sub_eq_succ rfl, Nat.lt_of_sub_eq_succ rfl⟩
theorem ask_put : FnOk Tryz.prog 86 [.agg (nS 1 1 [] [] false).enc, .int .i64 0, .int .i64 1, .agg [.int .i64 2, .str [107], .str [], .str [118], .int .i64 0, .nils]] H
    fun r G => (∃ cv ev dv, r = .tup [.agg (aS cv ev dv).enc, .agg [.int .i64 0, .str [], .int .i64 1, .nils], .int .i64 0] ∧ (aS cv ev dv).ok G) ∧ ∃ L, G = H.ext L := by
  refine (f86_put (s := nS 1 1 [] [] false) (nS_ok ..) (ke := H.key 0) rfl (by show 0 < 9000; decide) (by show 0 < 9000; decide) k_key (v := [118]) (by show (1 : Int) ≤ 12; decide) hist_nil (by show (0 : Int) < 1000000000000; decide) (by show 0 < 9000; decide) List.Pairwise.nil (fun d hd => absurd hd List.not_mem_nil) (ses := 0) (id := 1) rfl).mono ?_
  rintro r G ⟨rfl, rfl⟩
  have hr : refW [] (nextC [] [107] [118] false) = [⟨[107], [118], 1, false, 0⟩] := by rw [refW_eq hist_nil.1]; rfl
  have hS : ∀ k0 k1 k2, askS (nS 1 1 [] [] false) [107] [118] 0 1 k0 k1 k2 = aS (outV k0 5 1) (outV k1 4 1) (outV k2 6 1) := fun k0 k1 k2 => by
    unfold askS addS
    rw [show (nS 1 1 [] [] false).cells = [] from rfl, hr]
    rfl
  have hB : askB (nS 1 1 [] [] false) [107] [118] 0 1 = [.row true 5 [Cell.enc ⟨[107], [118], 1, false, 0⟩], .row true 4 [Evn.enc ⟨[107], 1, [118], false⟩], .row true 6 [Dn.enc ⟨0, 1, putA 1⟩]] := by
    unfold askB addB
    rw [show (nS 1 1 [] [] false).cells = [] from rfl, hr]
    rfl
  rw [hS, hB]
  refine ⟨⟨_, _, _, rfl, ?_⟩, _, rfl⟩
  exact ⟨arr_outV (i := 0) (n := 1) (xs := [Cell.enc ⟨[107], [118], 1, false, 0⟩]) rfl rfl, arr_outV (i := 1) (n := 1) (xs := [Evn.enc ⟨[107], 1, [118], false⟩]) rfl rfl, arr_outV (i := 2) (n := 1) (xs := [Dn.enc ⟨0, 1, putA 1⟩]) rfl rfl, fun d hd => by rw [List.mem_singleton.1 hd]; exact putA_ok _ _, Nat.lt_of_sub_eq_succ rfl, Nat.lt_of_sub_eq_succ rfl, Nat.lt_of_sub_eq_succ rfl⟩
theorem get_of_ext {M : Heap} {bl L : List Blk} (hM : M = (H.ext bl).ext L) {i : Nat} {x : Blk} (h : bl[i]? = some x) : M.get (H.key i) = some x := by rw [hM]; exact get_lit2 h
theorem set_of_ext {M : Heap} {bl L : List Blk} (hM : M = (H.ext bl).ext L) {i : Nat} (h : i < bl.length) (b : Blk) (l : List Blk) : ∃ M2, (M.set (H.key i) b).ext l = H.ext M2 := by
  rw [hM, Heap.ext_append, Heap.set_ext_key _ _ _ _ (by rw [List.length_append]; omega), Heap.ext_append]
  exact ⟨_, rfl⟩
section
variable {G : Heap} {k : K} {lv : AV}
theorem f39_ask (h : isHd G k lv .nils [nS 1 1 [] [] false] []) : FnOk Tryz.prog 39 [.ptr k 0, .agg [.int .i64 2, .int .i64 0, .int .i64 1, .int .i64 0, .int .i64 0, .int .i64 0, .int .i64 2, .str [107], .str [], .str [118], .int .i64 0, .nils, .str [], .str [], .nils, .nils]] G fun r G' => r = .tup [.agg [.int .i64 0, .str [], .int .i64 1, .nils], .nili] ∧ (∃ lv' cv ev dv, isHd G' k lv' .nils [aS cv ev dv] []) ∧ Nx k G G' := by
  refine FnOk.of_WW Tryz.func39 rfl C39ok R39ok E0 good_E0 ?_
  have hq : findQ [107] (nS 1 1 [] [] false) = true := by
    show (if (false : Bool) = true then false else decide (has [] [] [107])) = true
    rw [if_neg Bool.false_ne_true]
    exact decide_eq_true (k_has 107)
  have hcp : ∀ k0 k1 k2, (nS 1 1 [] [] false).cop k0 k1 k2 = nS 1 1 [] [] false := fun _ _ _ => rfl
  have hcb : copB (nS 1 1 [] [] false) = [.dead, .dead, .dead] := rfl
  simp only [go_sem, C39]
  refine CL.of (f85_ok (by decide) [107] _ _ _ _) ?_
  rintro _ G' ⟨rfl, hG⟩; rw [hG]; clear hG
  simp only [go_sem]
  refine CL.of (f21_yes (h.ext _) [107] (i := 0) (idx_one hq) rfl) ?_
  rintro _ G' ⟨rfl, hG⟩
  rw [hG, hcp, hcb]
  clear hG
  simp only [go_sem, nS, Sh.enc]
  refine CL.of ask_put ?_
  rintro _ M ⟨⟨cv, ev, dv, rfl, haok⟩, L, hM⟩
  have hMok : M.ok := by rw [hM]; exact Heap.ok_ext (Heap.ok_ext h.ok _) _
  have e1 := get_of_ext hM (i := 1) rfl
  have e5 := get_of_ext hM (i := 5) rfl
  have hset := set_of_ext hM (i := 5) (Nat.lt_of_sub_eq_succ rfl)
  have g1 := fun L => Heap.get_ext_old hMok e1 L
  have s5 := fun b (l : List Blk) (α : Type) (c' : Heap → α) => Heap.setC_here hMok e5 b l c'
  have k5 := fun b (l : List Blk) => Heap.get_set_here hMok e5 b l
  have g5 := fun L => Heap.get_ext_old hMok e5 L
  have hh : ∀ b l, isHd ((M.set (G.key 5) b).ext l) k lv .nils [nS 1 1 [] [] false] [] := fun b l => by
    obtain ⟨M2, e⟩ := hset b l
    rw [e]
    exact h.ext M2
  have hn : ∀ b l, Nx k G ((M.set (G.key 5) b).ext l) := fun b l => by
    obtain ⟨M2, e⟩ := hset b l
    rw [e]
    exact Nx.ext h.ok M2
  have ha : ∀ b l, (aS cv ev dv).ok ((M.set (G.key 5) b).ext l) := fun b l => ⟨(haok.c.set e5 (by decide)).ext l, (haok.e.set e5 (by decide)).ext l, (haok.d.set e5 (by decide)).ext l, bareL.ok (aS_small cv ev dv).b _, haok.cl, haok.el, haok.dl⟩
  have hne : G.key 5 ≠ G.key 1 := fun e => by
    have := congrArg K.toNat e
    rw [Heap.toNat_key, Heap.toNat_key] at this
    omega
  have hg1 : ∀ b l, ((M.set (G.key 5) b).ext l).get (G.key 1) = _ := fun b l => Heap.get_set_there hMok e1 hne b l
  have hg0 : ∀ b x, ((M.set (G.key 5) b).ext [x]).get (M.key 0) = some x := fun b x => Heap.get_key_set (Nat.zero_lt_succ _)
  refine WW.nil ?_
  simp only [go_sem, aS, Sh.enc, g5, s5, k5]
  refine CL.of (f87_same (s := aS cv ev dv) (hh _ _) rfl (ha _ _) (aS_small ..)) ?_
  rintro _ M3 ⟨rfl, ⟨lv3, h3⟩, n3⟩
  have hMk : k ≠ M.key 0 := by
    have hMG := h.ok _ _ h.row
    rintro rfl
    have h1 := hMok _ _ (by rw [hM, Heap.ext_append]; exact Heap.get_ext_old h.ok h.row _)
    rw [Heap.toNat_key] at h1
    omega
  have q0 := n3.keep (M.key 0) _ hMk (hg0 _ _)
  have q1 := n3.keep (G.key 1) _ (ne_key h.ok h.row 1) (hg1 _ _)
  have r0 := fun L => Heap.get_ext_old h3.ok q0 L
  have r1 := fun L => Heap.get_ext_old h3.ok q1 L
  have s1 := fun b (l : List Blk) (α : Type) (c' : Heap → α) => Heap.setC_here h3.ok q1 b l c'
  have k1 := fun b (l : List Blk) => Heap.get_set_here h3.ok q1 b l
  refine WW.nil ?_
  simp only [go_sem, r0, r1, s1, k1]
  exact ⟨⟨lv3, cv, ev, dv, (h3.cell q1 _).ext []⟩, ((hn _ _).trans n3).cell h.ok h3.ok q1 _ _⟩
theorem f13_ask (h : isHd G k lv .nils [nS 1 1 [] [] false] []) : FnOk Tryz.prog 13 [.ptr k 0, .agg [.int .i64 2, .int .i64 0, .int .i64 1, .int .i64 0, .int .i64 0, .int .i64 0, .int .i64 2, .str [107], .str [], .str [118], .int .i64 0, .nils, .str [], .str [], .nils, .nils]] G fun r G' => r = .tup [.agg [.int .i64 0, .str [], .int .i64 1, .nils], .nili] ∧ (∃ lv' cv ev dv, isHd G' k lv' .nils [aS cv ev dv] []) ∧ Nx k G G' := by
  refine FnOk.of_WW Tryz.func13 rfl C13ok R13ok E0 good_E0 ?_
  have hk : ∀ L, (G.ext L).get k = _ := fun L => Heap.get_ext_old h.ok h.row L
  simp only [go_sem, C13, hk]
  refine CL.of (f39_ask (h.ext _)) ?_
  rintro _ G' ⟨rfl, ⟨lv', cv, ev, dv, hhd⟩, hnx⟩
  obtain ⟨G1, hG1⟩ : ∃ G1, G1 = G' := ⟨_, rfl⟩
  rw [← hG1] at hhd hnx ⊢
  clear hG1
  have e1 := hnx.keep (G.key 1) _ (ne_key h.ok h.row 1) (get_lit rfl)
  have e3 := hnx.keep (G.key 3) _ (ne_key h.ok h.row 3) (get_lit rfl)
  have g3 := fun L => Heap.get_ext_old hhd.ok e3 L
  have s3 := fun b (l : List Blk) (α : Type) (c' : Heap → α) => Heap.setC_here hhd.ok e3 b l c'
  have k3 := fun b (l : List Blk) => Heap.get_set_here hhd.ok e3 b l
  have hne : G.key 3 ≠ G.key 1 := fun e => by
    have := congrArg K.toNat e
    rw [Heap.toNat_key, Heap.toNat_key] at this
    omega
  have o2 : ∀ b, (G1.set (G.key 3) b).ok := fun b => Heap.ok_set hhd.ok e3
  have e1' : ∀ b, (G1.set (G.key 3) b).get (G.key 1) = some (.row true 4 [[.int .i64 0, .str [], .int .i64 0, .nils]]) := fun b => by
    have := Heap.get_set_there hhd.ok e1 hne b []
    rwa [Heap.ext_nil] at this
  have g1 := fun b L => Heap.get_ext_old (o2 b) (e1' b) L
  have s1 := fun b b' (l : List Blk) (α : Type) (c' : Heap → α) => Heap.setC_here (o2 b) (e1' b) b' l c'
  have k1 := fun b b' (l : List Blk) => Heap.get_set_here (o2 b) (e1' b) b' l
  refine WW.nil ?_
  simp only [go_sem, g3, s3, k3]
  refine CL.of (f42_none _) ?_
  rintro _ G' ⟨rfl, hG⟩; rw [hG]; clear hG
  simp only [go_sem]
  refine CL.of (f43_ok none 10) ?_
  rintro _ G' ⟨rfl, hG⟩; rw [hG]; clear hG
  simp only [go_sem, g3, s3, k3, g1, s1, k1]
  have hn3 : ∀ b, Nx k G (G1.set (G.key 3) b) := fun b => by
    have := ((Nx.ext h.ok _).trans hnx).cell h.ok hhd.ok e3 b []
    rwa [Heap.ext_nil] at this
  exact ⟨⟨lv', cv, ev, dv, ((hhd.cell e3 _).cell (e1' _) _).ext _⟩, (hn3 _).cell h.ok (o2 _) (e1' _) _ _⟩
end
end Go.Proofs
/- image.Read of a shard's bytes: walked. -/


set_option linter.all false
set_option linter.all false
set_option maxRecDepth 100000
namespace Go.Proofs
open Go Go.Ev
variable {H : Heap}

theorem f78_ok {s : Sh} (hs : isSh s) (hsm : smallS s) (hL : (imgT s).length < 200001) :
    FnOk Tryz.prog 78 [.str (wrapT (imgT s))] H fun r G => (∃ cv ev dv, r = .tup [.agg [.int .i64 s.id, .int .i64 s.ep, .str s.fr, .str s.to, .bool s.frz, cv, ev, dv], .nili] ∧ (⟨s.id, s.ep, s.fr, s.to, s.frz, s.cells, s.evs, s.done, cv, ev, dv⟩ : Sh).ok G) ∧ ∃ L, G = H.ext L := by
  refine FnOk.assume fun hok => ?_
  refine FnOk.of_WW Tryz.func78 rfl C78ok R78ok E0 good_E0 ?_
  simp only [go_sem, C78]
  refine CL.of (f126_ok hL) ?_
  rintro _ G' ⟨rfl, hG⟩; rw [hG]; clear hG
  simp only [go_sem]
  refine CL.of (f127_ok hs hsm hL (get_lit rfl)) ?_
  rintro _ M ⟨⟨cv, ev, dv, rfl, haok⟩, L, hM⟩
  rw [Heap.set_ext_key _ _ _ _ (by simp only [List.length_cons, List.length_nil]; decide)] at hM
  simp only [List.set_cons_succ, List.set_cons_zero] at hM
  have hMok : M.ok := by rw [hM]; exact Heap.ok_ext (Heap.ok_ext hok _) _
  have e0 := get_of_ext hM (i := 0) rfl
  have e1 := get_of_ext hM (i := 1) rfl
  have hset := set_of_ext hM (i := 0) (Nat.lt_of_sub_eq_succ rfl)
  have g0 := fun L => Heap.get_ext_old hMok e0 L
  have g1 := fun L => Heap.get_ext_old hMok e1 L
  have s0 := fun b (l : List Blk) (α : Type) (c' : Heap → α) => Heap.setC_here hMok e0 b l c'
  have k0 := fun b (l : List Blk) => Heap.get_set_here hMok e0 b l
  refine WW.nil ?_
  simp only [go_sem, g1]
  refine CL.of (f43_ok none 10) ?_
  rintro _ G' ⟨rfl, hG⟩; rw [hG]; clear hG
  have hs' : isSh ⟨s.id, s.ep, s.fr, s.to, s.frz, s.cells, s.evs, s.done, cv, ev, dv⟩ := hs
  have hsm' : smallS ⟨s.id, s.ep, s.fr, s.to, s.frz, s.cells, s.evs, s.done, cv, ev, dv⟩ := ⟨hsm.b, hsm.c, hsm.e, hsm.d⟩
  have hI : imgT ⟨s.id, s.ep, s.fr, s.to, s.frz, s.cells, s.evs, s.done, cv, ev, dv⟩ = imgT s := rfl
  simp only [go_sem, g1]
  refine CL.of (f31_ok (s := ⟨s.id, s.ep, s.fr, s.to, s.frz, s.cells, s.evs, s.done, cv, ev, dv⟩) (haok.ext _) hs' hsm' (by rw [hI]; omega)) ?_
  rintro _ G' ⟨rfl, hG⟩; rw [hG]; clear hG
  rw [hI]
  simp only [go_sem, g0, s0, k0]
  exact ⟨⟨cv, ev, dv, rfl, ⟨(haok.c.set e0 (by decide)).ext _, (haok.e.set e0 (by decide)).ext _, (haok.d.set e0 (by decide)).ext _, hsm.b.ok _, haok.cl, haok.el, haok.dl⟩⟩, hset _ _⟩
end Go.Proofs
/- a shard behind so many puts. -/

set_option linter.all false
set_option linter.all false
set_option maxRecDepth 100000
namespace Go.Proofs
open Go Go.Ev
variable {H : Heap}

theorem withL_leng (c : Cell) : ∀ l : List Cell, (withL l c).length ≤ l.length + 1
  | [] => Nat.le_refl _
  | d :: l => by
    unfold withL
    have := withL_leng c l
    split
    · simp only [List.length_cons]; omega
    · split <;> simp only [List.length_cons] <;> omega
/-- puts by whatever keys, by one session -/
structure PutI (e : Int) (z : Bool) (i : Nat) (s : Sh) : Prop where
  hd : s.id = 1 ∧ s.ep = e ∧ s.fr = [] ∧ s.to = [] ∧ s.frz = z
  hist : isHist s.evs s.cells
  len : s.evs.length = i
  vers : ∀ k, (getL s.cells k).1.ver ≤ i
  cl : s.cells.length ≤ i
  done : (i = 0 ∧ s.done = []) ∨ ∃ n : Int, 0 ≤ n ∧ n ≤ i ∧ 0 < i ∧ s.done = [⟨0, i, putA n⟩]
  ev0 : i = 0 → s.ev = .nils
section
variable {e : Int} {z : Bool} {i : Nat} {s : Sh}
theorem PutI.bare (h : PutI e z i s) : bareL s.done := by
  rcases h.done with ⟨_, hd⟩ | ⟨n, _, _, _, hd⟩
  · rw [hd]; exact fun d hd => absurd hd List.not_mem_nil
  · rw [hd]; exact fun d hd => by rw [List.mem_singleton.1 hd]; exact ⟨rfl, rfl⟩
theorem PutI.dl (h : PutI e z i s) : s.done.length ≤ 1 := by
  rcases h.done with ⟨_, hd⟩ | ⟨n, _, _, _, hd⟩ <;> rw [hd] <;> simp
theorem PutI.small (h : PutI e z i s) (hi : i ≤ 20) : smallS s := ⟨h.bare, by have := h.cl; omega, by have := h.len; omega, by have := h.dl; omega⟩
theorem PutI.up (h : PutI e z i s) : upD s.done := by
  rcases h.done with ⟨_, hd⟩ | ⟨n, _, _, _, hd⟩ <;> rw [hd]
  · exact List.Pairwise.nil
  · exact List.pairwise_singleton ..
theorem PutI.stands (h : PutI e z i s) : (stands s.done 0 ((i : Int) + 1)).2 = 0 := by
  rcases h.done with ⟨_, hd⟩ | ⟨n, _, _, _, hd⟩ <;> rw [hd]
  · rfl
  · show (if (i : Int) < (i : Int) + 1 then ((zeroA, 0) : An × Int) else _).2 = 0
    rw [if_pos (by omega)]
theorem PutI.sh (h : PutI e z i s) (hi : i ≤ 20) (h1 : 1 ≤ e) (h2 : e ≤ 1000000) : isSh s := by
  obtain ⟨e1, e2, e3, e4, e5⟩ := h.hd
  refine ⟨⟨by omega, by omega, by omega, by omega⟩, by rw [e3, e4]; exact k_span, fun c hc => ?_, by have := h.len; omega, h.hist, ?_⟩
  · rw [e3, e4]
    exact ⟨k_span, (h.hist.1.cell hc).1.1, not_ltS_nil _, .inl rfl⟩
  · rcases h.done with ⟨_, hd⟩ | ⟨n, g1, g2, g3, hd⟩ <;> rw [hd]
    · exact done_iff.2 ⟨fun c hc => absurd hc List.not_mem_nil, List.Pairwise.nil⟩
    · refine done_iff.2 ⟨fun c hc => ?_, List.pairwise_singleton ..⟩
      rw [List.mem_singleton.1 hc]
      exact ⟨⟨by show (0 : Int) ≤ 0; decide, by show (0 : Int) < 3; decide, by show (1 : Int) ≤ (i : Int); omega, by show (i : Int) ≤ 1000000000000; omega⟩, putA_is g1 (by omega)⟩
theorem PutI.next (h : PutI e z i s) (hi : i < 20) {k : List Nat} (hk : isKey k) (k0 k1 k2 : K) : PutI e z (i + 1) (askS s k [118] 0 ((i : Int) + 1) k0 k1 k2) := by
  have hver := h.vers k
  obtain ⟨-, hv0, -, -, -⟩ := cell_of h.hist k
  have hlen : (s.evs ++ [nextE s.cells k [118] false]).length - 24 = 0 := by rw [List.length_append, h.len]; show i + 1 - 24 = 0; omega
  have hcs : (askS s k [118] 0 ((i : Int) + 1) k0 k1 k2).cells = withL s.cells (nextC s.cells k [118] false) := by
    show keepC ((s.evs ++ [nextE s.cells k [118] false]).take ((s.evs ++ [nextE s.cells k [118] false]).length - 24)) (refW s.cells (nextC s.cells k [118] false)) = _
    rw [hlen, List.take_zero, keepC_nil, refW_eq h.hist.1]
  refine ⟨h.hd, askS_hist h.hist hk (by decide) (by omega) .., ?_, ?_, ?_, ?_, fun h0 => absurd h0 (Nat.succ_ne_zero _)⟩
  · show ((s.evs ++ [nextE s.cells k [118] false]).drop ((s.evs ++ [nextE s.cells k [118] false]).length - 24)).length = _
    rw [hlen, List.drop_zero, List.length_append, h.len]
    rfl
  · intro q
    rw [hcs]
    by_cases hq : q = (nextC s.cells k [118] false).key
    · rw [hq, getL_withL_self]
      show (getL s.cells k).1.ver + 1 ≤ ((i + 1 : Nat) : Int)
      omega
    · rw [getL_withL_other hq]
      have := h.vers q
      omega
  · rw [hcs]
    have := withL_leng (nextC s.cells k [118] false) s.cells
    have := h.cl
    omega
  · refine .inr ⟨(getL s.cells k).1.ver + 1, by omega, by omega, Nat.succ_pos _, ?_⟩
    show withD s.done ⟨0, (i : Int) + 1, putA ((getL s.cells k).1.ver + 1)⟩ = _
    rcases h.done with ⟨h0, hd⟩ | ⟨n, _, _, _, hd⟩ <;> rw [hd]
    · rfl
    · rw [withD_one 0 (show (i : Int) ≤ (i : Int) + 1 by omega)]
      rfl
theorem PutI.cop (h : PutI e z i s) (k0 k1 k2 : K) : PutI e z i (s.cop k0 k1 k2) := ⟨h.hd, h.hist, h.len, h.vers, h.cl, h.done, fun h0 => by
  show zV (nilB s.ev) k1 4 s.evs.length = .nils
  rw [h.ev0 h0, h.len, h0]
  rfl⟩
theorem PutI.evV (h : PutI e z i s) (k0 k1 k2 : K) : (s.cop k0 k1 k2).ev = outV k1 4 s.evs.length := by
  show zV (nilB s.ev) k1 4 s.evs.length = outV k1 4 s.evs.length
  have hl := h.len
  rcases Nat.eq_zero_or_pos i with h0 | h0
  · rw [h.ev0 h0, hl, h0]
    rfl
  · obtain ⟨m, hm⟩ : ∃ m, s.evs.length = m + 1 := ⟨i - 1, by omega⟩
    rw [hm]
    rfl
theorem PutI.con (h : PutI e z i s) (e' : Int) (z' : Bool) (cv ev dv : AV) (hev : i = 0 → ev = .nils) : PutI e' z' i ⟨s.id, e', s.fr, s.to, z', s.cells, s.evs, s.done, cv, ev, dv⟩ := ⟨⟨h.hd.1, rfl, h.hd.2.2.1, h.hd.2.2.2.1, rfl⟩, h.hist, h.len, h.vers, h.cl, h.done, hev⟩
end
theorem putI_nil (e : Int) (z : Bool) : PutI e z 0 (nS 1 e [] [] z) := ⟨⟨rfl, rfl, rfl, rfl, rfl⟩, hist_nil, rfl, fun k => by show (0 : Int) ≤ 0; decide, Nat.le_refl _, .inl ⟨rfl, rfl⟩, fun _ => rfl⟩
end Go.Proofs
/- a put asked of a node of one shard: walked. -/

set_option linter.all false
set_option linter.all false
set_option maxRecDepth 100000
namespace Go.Proofs
open Go Go.Ev
variable {H : Heap}

theorem ask_putI {e : Int} {z : Bool} {i : Nat} {s : Sh} (h : s.ok H) (hP : PutI e z i s) (hi : i < 20) {ke : K} (hev : s.ev = outV ke 4 s.evs.length) {key : List Nat} (hk : isKey key) : FnOk Tryz.prog 86 [.agg s.enc, .int .i64 0, .int .i64 ((i : Int) + 1), .agg [.int .i64 2, .str key, .str [], .str [118], .int .i64 0, .nils]] H
    fun r G => (∃ t ver, r = .tup [.agg (Sh.enc t), .agg [.int .i64 0, .str [], .int .i64 ver, .nils], .int .i64 0] ∧ Sh.ok G t ∧ PutI e z (i + 1) t) ∧ ∃ L, G = H.ext L := by
  have hl := hP.len
  have hc := hP.cl
  have hd := hP.dl
  have hv := hP.vers key
  refine (f86_put h hev (by omega) (by omega) hk (v := [118]) (by show (1 : Int) ≤ 12; decide) hP.hist (by omega) (by omega) hP.up (fun d hd => (hP.bare d hd).2) (ses := 0) (id := (i : Int) + 1) hP.stands).mono ?_
  rintro r G ⟨rfl, rfl⟩
  refine ⟨⟨_, _, rfl, ?_, hP.next hi hk _ _ _⟩, _, rfl⟩
  refine askS_ok (by rw [refW_eq hP.hist.1]; have := withL_leng (nextC s.cells key [118] false) s.cells; omega) (by omega) (Nat.lt_of_le_of_lt withD_len (by omega)) h.dok rfl rfl rfl
section
variable {G : Heap} {k : K} {lv gv : AV} {gs : List Gn} {e : Int} {i : Nat} {s : Sh}
theorem PutI.find (hP : PutI e false i s) {key : List Nat} (hk : isKey key) : findQ key s = true := by
  unfold findQ
  rw [hP.hd.2.2.2.2, hP.hd.2.2.1, hP.hd.2.2.2.1, if_neg Bool.false_ne_true]
  exact decide_eq_true ⟨k_span, hk, not_ltS_nil _, .inl rfl⟩
theorem f39_put (h : isHd G k lv gv [s] gs) (hP : PutI e false i s) (hi : i < 20) {key : List Nat} (hk : isKey key) : FnOk Tryz.prog 39 [.ptr k 0, .agg [.int .i64 2, .int .i64 0, .int .i64 ((i : Int) + 1), .int .i64 0, .int .i64 0, .int .i64 0, .int .i64 2, .str key, .str [], .str [118], .int .i64 0, .nils, .str [], .str [], .nils, .nils]] G fun r G' => (∃ ver, r = .tup [.agg [.int .i64 0, .str [], .int .i64 ver, .nils], .nili]) ∧ (∃ lv' t, isHd G' k lv' gv [t] gs ∧ PutI e false (i + 1) t) ∧ Nx k G G' := by
  refine FnOk.of_WW Tryz.func39 rfl C39ok R39ok E0 good_E0 ?_
  have hso := h.each s (by simp)
  simp only [go_sem, C39]
  refine CL.of (f85_ok (by decide) key _ _ _ _) ?_
  rintro _ G' ⟨rfl, hG⟩; rw [hG]; clear hG
  simp only [go_sem]
  refine CL.of (f21_yes (h.ext _) key (i := 0) (idx_one (hP.find hk)) rfl) ?_
  rintro _ G' ⟨rfl, hG⟩; rw [hG]; clear hG
  simp only [go_sem, Sh.cop, Sh.enc, copB, Heap.key_ext]
  refine CL.of (ask_putI (s := s.cop (G.key 2) (G.key 3) (G.key 4)) (Sh.cop_ok hso rfl rfl rfl) (hP.cop _ _ _) hi (hP.evV _ _ _) hk) ?_
  rintro _ M ⟨⟨t, ver, rfl, haok, hPt⟩, L, hM⟩
  have htsm := hPt.small (by omega)
  have htid : s.id = t.id := hP.hd.1.trans hPt.hd.1.symm
  have hMok : M.ok := by rw [hM]; exact Heap.ok_ext (Heap.ok_ext h.ok _) _
  have e1 := get_of_ext hM (i := 1) rfl
  have e5 := get_of_ext hM (i := 5) rfl
  have hset := set_of_ext hM (i := 5) (Nat.lt_of_sub_eq_succ rfl)
  have g1 := fun L => Heap.get_ext_old hMok e1 L
  have s5 := fun b (l : List Blk) (α : Type) (c' : Heap → α) => Heap.setC_here hMok e5 b l c'
  have k5 := fun b (l : List Blk) => Heap.get_set_here hMok e5 b l
  have g5 := fun L => Heap.get_ext_old hMok e5 L
  have hh : ∀ b l, isHd ((M.set (G.key 5) b).ext l) k lv gv [s] gs := fun b l => by
    obtain ⟨M2, e⟩ := hset b l
    rw [e]
    exact h.ext M2
  have hn : ∀ b l, Nx k G ((M.set (G.key 5) b).ext l) := fun b l => by
    obtain ⟨M2, e⟩ := hset b l
    rw [e]
    exact Nx.ext h.ok M2
  have ha : ∀ b l, t.ok ((M.set (G.key 5) b).ext l) := fun b l => ⟨(haok.c.set e5 (by decide)).ext l, (haok.e.set e5 (by decide)).ext l, (haok.d.set e5 (by decide)).ext l, bareL.ok htsm.b _, haok.cl, haok.el, haok.dl⟩
  have hne : G.key 5 ≠ G.key 1 := fun e => by
    have := congrArg K.toNat e
    rw [Heap.toNat_key, Heap.toNat_key] at this
    omega
  have hg1 : ∀ b l, ((M.set (G.key 5) b).ext l).get (G.key 1) = _ := fun b l => Heap.get_set_there hMok e1 hne b l
  have hg0 : ∀ b x, ((M.set (G.key 5) b).ext [x]).get (M.key 0) = some x := fun b x => Heap.get_key_set (Nat.zero_lt_succ _)
  refine WW.nil ?_
  simp only [go_sem, Sh.enc, g5, s5, k5]
  refine CL.of (f87_same (s := t) (hh _ _) htid (ha _ _) htsm) ?_
  rintro _ M3 ⟨rfl, ⟨lv3, h3⟩, n3⟩
  have hMk : k ≠ M.key 0 := by
    have hMG := h.ok _ _ h.row
    rintro rfl
    have h1 := hMok _ _ (by rw [hM, Heap.ext_append]; exact Heap.get_ext_old h.ok h.row _)
    rw [Heap.toNat_key] at h1
    omega
  have q0 := n3.keep (M.key 0) _ hMk (hg0 _ _)
  have q1 := n3.keep (G.key 1) _ (ne_key h.ok h.row 1) (hg1 _ _)
  have r0 := fun L => Heap.get_ext_old h3.ok q0 L
  have r1 := fun L => Heap.get_ext_old h3.ok q1 L
  have s1 := fun b (l : List Blk) (α : Type) (c' : Heap → α) => Heap.setC_here h3.ok q1 b l c'
  have k1 := fun b (l : List Blk) => Heap.get_set_here h3.ok q1 b l
  refine WW.nil ?_
  simp only [go_sem, r0, r1, s1, k1]
  exact ⟨⟨ver, rfl⟩, ⟨lv3, t, (h3.cell q1 _).ext [], hPt⟩, ((hn _ _).trans n3).cell h.ok h3.ok q1 _ _⟩
theorem f13_put (h : isHd G k lv gv [s] gs) (hP : PutI e false i s) (hi : i < 20) {key : List Nat} (hk : isKey key) : FnOk Tryz.prog 13 [.ptr k 0, .agg [.int .i64 2, .int .i64 0, .int .i64 ((i : Int) + 1), .int .i64 0, .int .i64 0, .int .i64 0, .int .i64 2, .str key, .str [], .str [118], .int .i64 0, .nils, .str [], .str [], .nils, .nils]] G fun r G' => (∃ ver, r = .tup [.agg [.int .i64 0, .str [], .int .i64 ver, .nils], .nili]) ∧ (∃ lv' t, isHd G' k lv' gv [t] gs ∧ PutI e false (i + 1) t) ∧ Nx k G G' := by
  refine FnOk.of_WW Tryz.func13 rfl C13ok R13ok E0 good_E0 ?_
  have hk' : ∀ L, (G.ext L).get k = _ := fun L => Heap.get_ext_old h.ok h.row L
  simp only [go_sem, C13, hk']
  refine CL.of (f39_put (h.ext _) hP hi hk) ?_
  rintro _ G' ⟨⟨ver, rfl⟩, ⟨lv', t, hhd, hPt⟩, hnx⟩
  obtain ⟨G1, hG1⟩ : ∃ G1, G1 = G' := ⟨_, rfl⟩
  rw [← hG1] at hhd hnx ⊢
  clear hG1
  have e1 := hnx.keep (G.key 1) _ (ne_key h.ok h.row 1) (get_lit rfl)
  have e3 := hnx.keep (G.key 3) _ (ne_key h.ok h.row 3) (get_lit rfl)
  have g3 := fun L => Heap.get_ext_old hhd.ok e3 L
  have s3 := fun b (l : List Blk) (α : Type) (c' : Heap → α) => Heap.setC_here hhd.ok e3 b l c'
  have k3 := fun b (l : List Blk) => Heap.get_set_here hhd.ok e3 b l
  have hne : G.key 3 ≠ G.key 1 := fun e => by
    have := congrArg K.toNat e
    rw [Heap.toNat_key, Heap.toNat_key] at this
    omega
  have o2 : ∀ b, (G1.set (G.key 3) b).ok := fun b => Heap.ok_set hhd.ok e3
  have e1' : ∀ b, (G1.set (G.key 3) b).get (G.key 1) = some (.row true 4 [[.int .i64 0, .str [], .int .i64 0, .nils]]) := fun b => by
    have := Heap.get_set_there hhd.ok e1 hne b []
    rwa [Heap.ext_nil] at this
  have g1 := fun b L => Heap.get_ext_old (o2 b) (e1' b) L
  have s1 := fun b b' (l : List Blk) (α : Type) (c' : Heap → α) => Heap.setC_here (o2 b) (e1' b) b' l c'
  have k1 := fun b b' (l : List Blk) => Heap.get_set_here (o2 b) (e1' b) b' l
  refine WW.nil ?_
  simp only [go_sem, g3, s3, k3]
  refine CL.of (f42_none _) ?_
  rintro _ G' ⟨rfl, hG⟩; rw [hG]; clear hG
  simp only [go_sem]
  refine CL.of (f43_ok none 10) ?_
  rintro _ G' ⟨rfl, hG⟩; rw [hG]; clear hG
  simp only [go_sem, g3, s3, k3, g1, s1, k1]
  have hn3 : ∀ b, Nx k G (G1.set (G.key 3) b) := fun b => by
    have := ((Nx.ext h.ok _).trans hnx).cell h.ok hhd.ok e3 b []
    rwa [Heap.ext_nil] at this
  exact ⟨⟨ver, rfl⟩, ⟨lv', t, ((hhd.cell e3 _).cell (e1' _) _).ext _, hPt⟩, (hn3 _).cell h.ok (o2 _) (e1' _) _ _⟩
end
end Go.Proofs
/- what was given away; whether a number is fresh; a shard given away: walked. -/

set_option linter.all false
set_option linter.all false
set_option maxRecDepth 100000
namespace Go.Proofs
open Go Go.Ev
variable {H : Heap}

/-- the epoch of what was given away -/
def goneN : List Gn → Int → Int
  | [], _ => 0
  | g :: l, n => if g.id = n then g.ep else goneN l n
theorem gone_next {l : List Gn} {i : Nat} {g : Gn} (n : Int) (h : l[i]? = some g) : goneN (l.drop i) n = if g.id = n then g.ep else goneN (l.drop (i + 1)) n := by
  obtain ⟨h1, h2⟩ := List.getElem?_eq_some_iff.1 h
  rw [List.drop_eq_getElem_cons h1, h2]
  rfl
section
variable {G : Heap} {k : K} {lv gv : AV} {hs : List Sh} {gs : List Gn}
theorem off2 (a b c : Nat) : a * 2 + b + c = a * 2 + (b + c) := Nat.add_assoc ..
theorem f18_ok (h : isHd G k lv gv hs gs) (n : Int) : FnOk Tryz.prog 18 [.ptr k 0, .int .i64 n] G fun r G' => r = .int .i64 (goneN gs n) ∧ G' = G := by
  refine FnOk.drop (R := fun r => r = .int .i64 (goneN gs n)) ?_ (by rintro v rfl ρ; rw [AV.ren])
  refine FnOk.of_WW Tryz.func18 rfl C18ok R18ok E0 good_E0 ?_
  have hk : ∀ L, (G.ext L).get k = _ := fun L => Heap.get_ext_old h.ok h.row L
  have hA := h.g
  have hlen := fun G => hA.len G; simp only [List.length_map] at hlen; have hren := hA.ren
  have hfew := h.few.2
  simp only [go_sem, C18, hk, hlen]
  refine LL.st good_E0 (fun i : Nat => gs.length - i) (fun i => i ≤ gs.length ∧ goneN gs n = goneN (gs.drop i) n)
    (fun i => [((.o .z), .int .i64 n), ((.i (.i (.o .z))), gv), ((.o (.o (.i .z))), .int .i64 gs.length), ((.i (.o (.i .z))), .int .i64 i)]) (fun i => []) ?_ 0 (σ := []) (Wk.of rfl (by decide) (by simp only [go_sem, hren]) (by simp only [go_sem])) ⟨Nat.zero_le _, rfl⟩
  rintro i ⟨hi, hno⟩
  by_cases hlt : i < gs.length
  · obtain ⟨kk, r, ex', cap', wr, rows, hv, hrho, hgo, hrow⟩ := hA.at h.ok (j := i) (by rw [List.length_map]; exact hlt)
    simp only [List.length_map, List.getElem_map] at hv hrow
    have hget : gs[i]? = some gs[i] := List.getElem?_eq_getElem hlt
    generalize gs[i] = c at hrow hget
    have hw := wrap_succ (n := i) (by omega)
    have hci : (i : Int) < (gs.length : Int) := (by omega)
    have hsi : i + 1 ≤ gs.length := (by omega)
    have hnx := gone_next n hget
    simp only [go_sem, hv, hci, hsi, hgo, hrow, hw, Gn.enc, off2]
    refine ⟨fun hc => ⟨by rw [hno, hnx, if_pos hc], _, rfl⟩, fun hc => ?_⟩
    rw [if_neg hc] at hnx
    exact ⟨i + 1, by show gs.length - (i + 1) < gs.length - i; omega, ⟨by omega, hno.trans hnx⟩, _, [], rfl, Wk.of rfl (by decide) (by simp only [go_sem, hren, hrho, hv, hw]; first | done | rfl | trace_state) (by simp only [go_sem])⟩
  · have hci : ¬ (i : Int) < (gs.length : Int) := by omega
    simp only [go_sem, hci]
    exact ⟨by rw [hno, List.drop_eq_nil_of_le (by omega)]; rfl, _, rfl⟩
theorem f142_yes (h : isHd G k lv gv hs gs) {n : Int} (hx : idx (fun s => decide (s.id = n)) hs 0 = -1) (hg : goneN gs n = 0) : FnOk Tryz.prog 142 [.ptr k 0, .int .i64 n] G fun r G' => r = .bool true ∧ G' = G := by
  refine FnOk.drop (R := fun r => r = .bool true) ?_ (by rintro v rfl ρ; rw [AV.ren])
  refine FnOk.of_WW Tryz.func142 rfl C142ok R142ok E0 good_E0 ?_
  simp only [go_sem, C142]
  refine CL.of (f15_no (h.ext _) n hx) ?_
  rintro _ G' ⟨rfl, hG⟩; rw [hG]; clear hG
  simp only [go_sem, zS]
  refine CL.of (f18_ok (h.ext _) n) ?_
  rintro _ G' ⟨rfl, hG⟩
  rw [hG, hg]
  clear hG
  simp only [go_sem]
  exact ⟨_, rfl⟩
/-- gone: asked of where nothing was given away -/
noncomputable def EGn (f : FuncId) (args : List AV) (H : Heap) : RC :=
  match f with
  | 18 => match args with
    | [.ptr k 0, .int .i64 n] => match H.get k with
      | some (.row wr 2 [[lv, .nils]]) => .ok (.int .i64 0) H
      | _ => .fail
    | _ => .fail
  | _ => .fail
theorem f18_nil {H : Heap} {k : K} {wr : Bool} {lv : AV} (hk : H.get k = some (.row wr 2 [[lv, .nils]])) (n : Int) : FnOk Tryz.prog 18 [.ptr k 0, .int .i64 n] H fun r G' => r = .int .i64 0 ∧ G' = H := by
  refine FnOk.assume fun hok => ?_
  refine FnOk.drop (R := fun r => r = .int .i64 0) ?_ (by rintro v rfl ρ; rw [AV.ren])
  refine FnOk.of_WW Tryz.func18 rfl C18ok R18ok E0 good_E0 ?_
  have hgo := Heap.get_ext_old hok hk
  simp only [go_sem, C18, hgo]
  refine LL.st good_E0 (fun _ : Nat => 0) (fun _ => True) (fun _ => [((.o (.o (.i .z))), .int .i64 0), ((.i (.o (.i .z))), .int .i64 0)]) (fun _ => []) ?_ 0 (σ := []) (Wk.of rfl (by decide) (by simp only [go_sem]; first | done | rfl | trace_state) (by simp only [go_sem])) trivial
  rintro _ _
  simp only [go_sem]
  exact ⟨_, rfl⟩
theorem good_EGn : Ev.Good Tryz.prog EGn := by
  intro f args H r G he φ w args' ha hw
  refine (?_ : FnOk Tryz.prog f args H fun v' G' => v' = r ∧ G' = G).one φ w args' ha hw
  unfold EGn at he
  split at he
  · split at he
    · split at he
      · rename_i hk
        cases he; exact f18_nil hk _
      · cases he
    · cases he
  · cases he
theorem eg15 {k : K} {wr : Bool} {lv : AV} {n : Int} {H : Heap} (hk : H.get k = some (.row wr 2 [[lv, .nils]])) : EGn 18 [.ptr k 0, .int .i64 n] H = .ok (.int .i64 0) H := by
  show (match H.get k with | some (.row wr 2 [[lv, .nils]]) => .ok (.int .i64 0) H | _ => .fail : RC) = _
  rw [hk]
  rfl
theorem f145_ok {H : Heap} {c : K} {wr : Bool} {s : Sh} (hk : H.get c = some (.row wr 8 [s.enc])) (o : Sh) : FnOk Tryz.prog 145 [.agg o.enc, .ptr c 0] H fun r G => r = .bool (decide (o.id = s.id)) ∧ G = H := by
  refine FnOk.assume fun hok => ?_
  refine FnOk.drop (R := fun r => r = .bool (decide (o.id = s.id))) ?_ (by rintro v rfl ρ; rw [AV.ren])
  refine FnOk.of_WW Tryz.func145 rfl C145ok R145ok E0 good_E0 ?_
  have hgo := Heap.get_ext_old hok hk
  simp only [Sh.enc] at hgo
  simp only [go_sem, C145, Sh.enc, hgo]
  exact ⟨fun h => ⟨bool_t h, _, rfl⟩, fun h => ⟨bool_f h, _, rfl⟩⟩
theorem f196_nil (g : AV) : FnOk Tryz.prog 196 [.nils, g] H fun r G => r = .int .i64 (-1) ∧ G = H := by
  refine FnOk.drop (R := fun r => r = .int .i64 (-1)) ?_ (by rintro v rfl ρ; rw [AV.ren])
  refine FnOk.of_WW Tryz.func196 rfl C196ok R196ok E0 good_E0 ?_
  simp only [go_sem, C196]
  refine LL.st good_E0 (fun _ : Nat => 0) (fun _ => True) (fun _ => [((.o (.o (.o .z))), .int .i64 0), ((.i (.o (.o .z))), .int .i64 0)]) (fun _ => []) ?_ 0 (σ := []) (Wk.of rfl (by decide) (by simp only [go_sem]; first | done | rfl | trace_state) (by simp only [go_sem])) trivial
  rintro _ _
  simp only [go_sem]
  exact ⟨_, rfl⟩
theorem f146_nil (g : AV) : FnOk Tryz.prog 146 [.nils, g] H fun r G => r = .nils ∧ G = H := by
  refine FnOk.drop (R := fun r => r = .nils) ?_ (by rintro v rfl ρ; rw [AV.ren])
  refine FnOk.of_WW Tryz.func146 rfl C146ok R146ok E0 good_E0 ?_
  simp only [go_sem, C146]
  refine CL.of (f196_nil _) ?_
  rintro _ G' ⟨rfl, hG⟩; rw [hG]; clear hG
  simp only [go_sem]
  exact ⟨_, rfl⟩
end
end Go.Proofs
/- the only shard given away; shards put where there is none, where there is another: walked. -/

set_option linter.all false
set_option linter.all false
set_option maxRecDepth 100000
namespace Go.Proofs
open Go Go.Ev
variable {H : Heap}

section
variable {G : Heap} {k : K} {lv gv : AV} {gs : List Gn}
theorem isHd.drop {hs : List Sh} {gs : List Gn} (h : isHd G k lv gv hs gs) {L : List Blk} {i j : Nat} {id ep : Int} (hi : L[i]? = some (.row true 8 [zS])) (hj : L[j]? = some (.row true 2 [[.int .i64 id, .int .i64 ep]])) :
    isHd ((G.set k (.row true 2 [[.slice (G.key i) 0 0 8 false 1, .slice (G.key j) 0 1 2 false 1]])).ext L) k (.slice (G.key i) 0 0 8 false 1) (.slice (G.key j) 0 1 2 false 1) [] [⟨id, ep⟩] := by
  have hok := Heap.ok_ext (Heap.ok_set h.ok h.row (b := .row true 2 [[.slice (G.key i) 0 0 8 false 1, .slice (G.key j) 0 1 2 false 1]])) L
  have hgi : ((G.set k (.row true 2 [[.slice (G.key i) 0 0 8 false 1, .slice (G.key j) 0 1 2 false 1]])).ext L).get (G.key i) = some (.row true 8 [zS]) := by rw [Heap.get_key_set (List.getElem?_eq_some_iff.1 hi).1, hi]
  have hgj : ((G.set k (.row true 2 [[.slice (G.key i) 0 0 8 false 1, .slice (G.key j) 0 1 2 false 1]])).ext L).get (G.key j) = some (.row true 2 [[.int .i64 id, .int .i64 ep]]) := by rw [Heap.get_key_set (List.getElem?_eq_some_iff.1 hj).1, hj]
  exact ⟨hok, Heap.get_set_here h.ok h.row _ L, .inr ⟨G.key i, 0, false, 1, rfl, hok _ _ hgi, fun hx => absurd rfl hx⟩, .inr ⟨G.key j, 0, false, 1, rfl, hok _ _ hgj, fun _ => ⟨0, true, _, rfl, hgj, rfl⟩⟩, fun s hs => absurd hs List.not_mem_nil, fun s hs => absurd hs List.not_mem_nil, Nat.zero_le _, by show 1 ≤ 8; decide⟩
theorem f91_only {o s : Sh} (h : isHd G k lv .nils [o] []) (hid : o.id = s.id) (h0 : 0 ≤ s.ep) : FnOk Tryz.prog 91 [.ptr k 0, .agg s.enc] G fun r G' => r = .tup [] ∧ (∃ c gv', isHd G' k (.slice c 0 0 8 false 1) gv' [] [⟨s.id, s.ep⟩]) ∧ Nx k G G' := by
  refine FnOk.of_WW Tryz.func91 rfl C91ok R91ok EGn good_EGn ?_
  have hk : ∀ L, (G.ext L).get k = _ := fun L => Heap.get_ext_old h.ok h.row L
  have hset := fun b (l : List Blk) (α : Type) (c' : Heap → α) => Heap.setC_here h.ok h.row b l c'
  have hset2 := fun b d (l : List Blk) (α : Type) (c' : Heap → α) => Heap.setC_set_here h.ok h.row b d l c'
  have hk2 := fun b (l : List Blk) => Heap.get_set_here h.ok h.row b l
  have hmax : max s.ep 0 = s.ep := by omega
  have i15 := fun (v : AV) (l : List Blk) (n : Int) => eg15 (k := k) (wr := true) (lv := v) (n := n) (hk2 (.row true 2 [[v, .nils]]) l)
  simp only [go_sem, C91, hk, Sh.enc]
  refine CL.of (clone_zd clo97 (h.l.ext _) (by show (2 * 1 + 192) * 128 ≤ 281474976710656; decide) (fun top σ => shs_rens (fun s hs => (h.each s hs).ext _) top σ)) ?_
  rintro _ _ ⟨rfl, rfl⟩
  simp only [go_sem, zV_pos (show 0 < 0 + 1 from Nat.zero_lt_succ 0), zB_pos (show 0 < [o.enc].length from Nat.zero_lt_succ 0)]
  refine CL.of (f139_only (q := fun o => decide (o.id = s.id)) (Heap.ok_ext h.ok _) (get_lit rfl) (fun _ _ => call145 ..) (fun top σ => by exact cap_lit (Nat.zero_lt_succ _) 145 top σ) (fun L => by exact f145_ok (s := s) (get_lit2 rfl) o) (decide_eq_true hid)) ?_
  rintro _ G' ⟨rfl, hG⟩
  rw [hG, Heap.set_ext_key _ _ _ _ (by exact Nat.lt_succ_self 1)]
  clear hG
  simp only [go_sem, hk, hset, hset2, hk2, i15, hmax]
  refine CL.of (clone_nil clo42) ?_
  rintro _ G' ⟨rfl, hG⟩; rw [hG]; clear hG
  simp only [go_sem]
  refine CL.of (f146_nil _) ?_
  rintro _ G' ⟨rfl, hG⟩; rw [hG]; clear hG
  simp only [go_sem, hk, hset, hset2, hk2, i15, hmax]
  have hh := fun L h1 h3 => isHd.drop h (L := L) (i := 1) (j := 3) (id := s.id) (ep := s.ep) h1 h3
  refine CL.of (f82_ok (gs := [⟨s.id, s.ep⟩]) (hh _ (by rfl) (by rfl)).g (Nat.le_refl 1) 148) ?_
  rintro _ G' ⟨rfl, hG⟩; rw [hG]; clear hG
  simp only [go_sem]
  exact ⟨⟨_, _, hh _ rfl rfl⟩, Nx.set h.ok h.row _ _⟩
/-- where there is none -/
theorem f87_first {c : K} {ex : Bool} {cap : Nat} {s : Sh} (h : isHd G k (.slice c 0 0 8 ex cap) gv [] gs) (hs : s.ok G) (hsm : smallS s) : FnOk Tryz.prog 87 [.ptr k 0, .agg s.enc] G fun r G' => r = .tup [] ∧ (∃ lv', isHd G' k lv' gv [s] gs) ∧ Nx k G G' := by
  refine FnOk.of_WW Tryz.func87 rfl C87ok R87ok E0 good_E0 ?_
  have hk : ∀ L, (G.ext L).get k = _ := fun L => Heap.get_ext_old h.ok h.row L
  have hset := fun b (l : List Blk) (α : Type) (c' : Heap → α) => Heap.setC_here h.ok h.row b l c'
  have hset2 := fun b d (l : List Blk) (α : Type) (c' : Heap → α) => Heap.setC_set_here h.ok h.row b d l c'
  have hk2 := fun b (l : List Blk) => Heap.get_set_here h.ok h.row b l
  simp only [go_sem, C87, hk, Sh.enc]
  refine CL.of (clone_zd clo97 (h.l.ext _) (by show (2 * 0 + 192) * 128 ≤ 281474976710656; decide) (fun top σ => rfl)) ?_
  rintro _ _ ⟨rfl, rfl⟩
  have hz : nilB (.slice c 0 0 8 ex cap) = false := rfl
  have hz1 : ∀ k, zV false k 8 0 = .slice k 0 0 8 true 0 := fun _ => rfl
  have hz2 : zB false 8 [] = .row true 8 [] := rfl
  simp only [go_sem, hz, hz1, hz2]
  refine CL.of (f139_none (l := []) (q := fun o => decide (o.id = s.id)) (.inr ⟨G.key 1, 0, true, 0, rfl, Heap.ok_ext h.ok _ _ _ (get_lit rfl), fun hx => absurd rfl hx⟩) (Nat.zero_le _) (fun _ _ => call141 ..) (fun top σ => by exact cap_lit (Nat.zero_lt_succ _) 141 top σ) (fun o ho => absurd ho List.not_mem_nil) rfl) ?_
  rintro _ G' ⟨rfl, hG⟩; rw [hG]; clear hG
  simp only [go_sem, hk, hset, hset2, hk2]
  have hput := fun L (hj : L[3]? = some (.row true 8 ([s].map Sh.enc))) => isHd.put (hs' := [s]) h (L := L) (j := 3) hj (fun x hx => by rw [List.mem_singleton.1 hx]; exact hs) (fun x hx => by rw [List.mem_singleton.1 hx]; exact hsm) (by show 1 ≤ 8; decide) 1 false
  refine CL.of (f81_ok (hput _ (by rfl)) (Nat.le_refl 1)) ?_
  rintro _ G' ⟨rfl, hG⟩; rw [hG]; clear hG
  simp only [go_sem]
  exact ⟨⟨_, hput _ rfl⟩, Nx.set h.ok h.row _ _⟩
/-- behind another -/
theorem f87_more {a s : Sh} (h : isHd G k lv gv [a] gs) (hid : ¬ a.id = s.id) (hs : s.ok G) (hsm : smallS s) (hst : sorted2 [a, s]) : FnOk Tryz.prog 87 [.ptr k 0, .agg s.enc] G fun r G' => r = .tup [] ∧ (∃ lv', isHd G' k lv' gv [a, s] gs) ∧ Nx k G G' := by
  refine FnOk.of_WW Tryz.func87 rfl C87ok R87ok E0 good_E0 ?_
  have hk : ∀ L, (G.ext L).get k = _ := fun L => Heap.get_ext_old h.ok h.row L
  have hset := fun b (l : List Blk) (α : Type) (c' : Heap → α) => Heap.setC_here h.ok h.row b l c'
  have hset2 := fun b d (l : List Blk) (α : Type) (c' : Heap → α) => Heap.setC_set_here h.ok h.row b d l c'
  have hk2 := fun b (l : List Blk) => Heap.get_set_here h.ok h.row b l
  have haok := h.each a (by simp)
  simp only [go_sem, C87, hk, Sh.enc]
  refine CL.of (clone_zd clo97 (h.l.ext _) (by show (2 * 1 + 192) * 128 ≤ 281474976710656; decide) (fun top σ => shs_rens (fun s hs => (h.each s hs).ext _) top σ)) ?_
  rintro _ _ ⟨rfl, rfl⟩
  simp only [go_sem, zV_pos (show 0 < 0 + 1 from Nat.zero_lt_succ 0), zB_pos (show 0 < [a.enc].length from Nat.zero_lt_succ 0)]
  have hidx : idx (fun o : Sh => decide (o.id = s.id)) [a] 0 = -1 := by unfold idx; rw [decide_eq_false hid, if_neg Bool.false_ne_true]; rfl
  refine CL.of (f139_none (l := [a]) (q := fun o => decide (o.id = s.id)) (.inr ⟨G.key 1, 0, false, 1, rfl, Heap.ok_ext h.ok _ _ _ (get_lit rfl), fun _ => ⟨0, true, _, rfl, get_lit rfl, rfl⟩⟩) (by show 1 ≤ 100000; decide) (fun _ _ => call141 ..) (fun top σ => by exact cap_lit (Nat.zero_lt_succ _) 141 top σ) (fun o ho L => by rw [List.mem_singleton.1 ho]; exact f141_ok (s := s) (get_lit2 rfl) a) hidx) ?_
  rintro _ G' ⟨rfl, hG⟩; rw [hG]; clear hG
  simp only [go_sem, hk, hset, hset2, hk2]
  have hput := fun L (hj : L[3]? = some (.row true 8 ([a, s].map Sh.enc))) => isHd.put (hs' := [a, s]) h (L := L) (j := 3) hj (fun x hx => by
      rcases List.mem_cons.1 hx with rfl | hx
      · exact haok
      · rw [List.mem_singleton.1 hx]; exact hs) (fun x hx => by
      rcases List.mem_cons.1 hx with rfl | hx
      · exact h.small _ (by simp)
      · rw [List.mem_singleton.1 hx]; exact hsm) (by show 2 ≤ 8; decide) 2 false
  refine CL.of (f81_ok (hput _ (by rfl)) hst) ?_
  rintro _ G' ⟨rfl, hG⟩; rw [hG]; clear hG
  simp only [go_sem]
  exact ⟨⟨_, hput _ rfl⟩, Nx.set h.ok h.row _ _⟩
end
end Go.Proofs
/- a shard installed at a node; installed again: walked. -/


set_option linter.all false
set_option linter.all false
set_option maxRecDepth 100000
namespace Go.Proofs
open Go Go.Ev
variable {H : Heap}

/-- what is told of what a node gave away -/
noncomputable def EGo (k0 : K) (g0 : Int) (f : FuncId) (args : List AV) (H : Heap) : RC := open Classical in
  match f with
  | 18 => match args with
    | [.ptr k 0, .int .i64 n] => if k = k0 ∧ n = 1 ∧ ∃ lv gv hs gs, isHd H k0 lv gv hs gs ∧ goneN gs 1 = g0 then .ok (.int .i64 g0) H else .fail
    | _ => .fail
  | _ => .fail
theorem good_EGo (k0 : K) (g0 : Int) : Ev.Good Tryz.prog (EGo k0 g0) := by
  intro f args H r G he φ w args' ha hw
  refine (?_ : FnOk Tryz.prog f args H fun v' G' => v' = r ∧ G' = G).one φ w args' ha hw
  unfold EGo at he
  split at he
  · split at he
    · split at he
      · rename_i hc
        obtain ⟨rfl, rfl, lv, gv, hs, gs, h, hg⟩ := hc
        cases he
        have := f18_ok h 1
        rw [hg] at this
        exact this
      · cases he
    · cases he
  · cases he
theorem ego18 {k : K} {G : Heap} {lv gv : AV} {hs : List Sh} {gs : List Gn} (h : isHd G k lv gv hs gs) : EGo k (goneN gs 1) 18 [.ptr k 0, .int .i64 1] G = .ok (.int .i64 (goneN gs 1)) G := if_pos ⟨rfl, rfl, lv, gv, hs, gs, h, rfl⟩
section
variable {G : Heap} {k : K} {lv gv : AV} {hs : List Sh} {gs : List Gn}
theorem f87_nil {s : Sh} (h : isHd G k .nils gv [] gs) (hs : s.ok G) (hsm : smallS s) : FnOk Tryz.prog 87 [.ptr k 0, .agg s.enc] G fun r G' => r = .tup [] ∧ (∃ lv', isHd G' k lv' gv [s] gs) ∧ Nx k G G' := by
  refine FnOk.of_WW Tryz.func87 rfl C87ok R87ok E0 good_E0 ?_
  have hk : ∀ L, (G.ext L).get k = _ := fun L => Heap.get_ext_old h.ok h.row L
  have hset := fun b (l : List Blk) (α : Type) (c' : Heap → α) => Heap.setC_here h.ok h.row b l c'
  have hset2 := fun b d (l : List Blk) (α : Type) (c' : Heap → α) => Heap.setC_set_here h.ok h.row b d l c'
  have hk2 := fun b (l : List Blk) => Heap.get_set_here h.ok h.row b l
  simp only [go_sem, C87, hk, Sh.enc]
  refine CL.of (clone_nil clo97) ?_
  rintro _ G' ⟨rfl, hG⟩; rw [hG]; clear hG
  simp only [go_sem]
  refine CL.of (f139_none (l := []) (q := fun o => decide (o.id = s.id)) (.inl ⟨rfl, rfl⟩) (Nat.zero_le _) (fun _ _ => call141 ..) (fun top σ => by exact cap_lit (Nat.zero_lt_succ _) 141 top σ) (fun o ho => absurd ho List.not_mem_nil) rfl) ?_
  rintro _ G' ⟨rfl, hG⟩; rw [hG]; clear hG
  simp only [go_sem, hk, hset, hset2, hk2]
  have hput := fun L (hj : L[2]? = some (.row true 8 ([s].map Sh.enc))) => isHd.put (hs' := [s]) h (L := L) (j := 2) hj (fun x hx => by rw [List.mem_singleton.1 hx]; exact hs) (fun x hx => by rw [List.mem_singleton.1 hx]; exact hsm) (by show 1 ≤ 8; decide) 1 false
  refine CL.of (f81_ok (hput _ (by rfl)) (Nat.le_refl 1)) ?_
  rintro _ G' ⟨rfl, hG⟩; rw [hG]; clear hG
  simp only [go_sem]
  exact ⟨⟨_, hput _ rfl⟩, Nx.set h.ok h.row _ _⟩
theorem f40_there (h : isHd G k lv gv hs gs) {i : Nat} {s : Sh} (hx : idx (fun s => decide (s.id = 1)) hs 0 = i) (hi : hs[i]? = some s) (m : Int) (data : List Nat) : FnOk Tryz.prog 40 [.ptr k 0, .agg [.int .i64 5, .int .i64 1, .int .i64 m, .int .i64 0, .int .i64 0, .int .i64 0, .int .i64 0, .str [], .str [], .str [], .int .i64 0, .nils, .str [], .str data, .nils, .nils]] G fun r G' => r = .iface 63 (.int .i64 22) ∧ G' = G := by
  refine FnOk.drop (R := fun r => r = .iface 63 (.int .i64 22)) ?_ (by rintro v rfl ρ; rw [AV.ren, AV.ren])
  refine FnOk.of_WW Tryz.func40 rfl C40ok R40ok E0 good_E0 ?_
  simp only [go_sem, C40]
  refine CL.of (f15_yes (h.ext _) 1 hx hi) ?_
  rintro _ G' ⟨rfl, hG⟩; rw [hG]; clear hG
  simp only [go_sem, Sh.cop, Sh.enc, copB, Heap.key_ext]
  exact ⟨_, rfl⟩
theorem f40_gone (h : isHd G k lv gv hs gs) (hx : idx (fun s => decide (s.id = 1)) hs 0 = -1) {m : Int} (hm : m ≤ goneN gs 1) (data : List Nat) : FnOk Tryz.prog 40 [.ptr k 0, .agg [.int .i64 5, .int .i64 1, .int .i64 m, .int .i64 0, .int .i64 0, .int .i64 0, .int .i64 0, .str [], .str [], .str [], .int .i64 0, .nils, .str [], .str data, .nils, .nils]] G fun r G' => r = .iface 63 (.int .i64 22) ∧ G' = G := by
  refine FnOk.drop (R := fun r => r = .iface 63 (.int .i64 22)) ?_ (by rintro v rfl ρ; rw [AV.ren, AV.ren])
  refine FnOk.of_WW Tryz.func40 rfl C40ok R40ok (EGo k (goneN gs 1)) (good_EGo _ _) ?_
  have hg := fun L => ego18 (h.ext L)
  simp only [go_sem, C40]
  refine CL.of (f15_no (h.ext _) 1 hx) ?_
  rintro _ G' ⟨rfl, hG⟩; rw [hG]; clear hG
  simp only [go_sem, zS, hg, hm]
  exact ⟨_, rfl⟩
theorem f40_new (h : isHd G k .nils .nils [] []) {s : Sh} (hs : isSh s) (hsm : smallS s) (hL : (imgT s).length < 200001) (hid : s.id = 1) (hep : s.ep = 3) (hfz : s.frz = true) :
    FnOk Tryz.prog 40 [.ptr k 0, .agg [.int .i64 5, .int .i64 1, .int .i64 4, .int .i64 0, .int .i64 0, .int .i64 0, .int .i64 0, .str [], .str [], .str [], .int .i64 0, .nils, .str [], .str (wrapT (imgT s)), .nils, .nils]] G fun r G' => r = .nili ∧ (∃ lv' cv ev dv, isHd G' k lv' .nils [⟨1, 4, s.fr, s.to, false, s.cells, s.evs, s.done, cv, ev, dv⟩] []) ∧ Nx k G G' := by
  refine FnOk.of_WW Tryz.func40 rfl C40ok R40ok (EGo k 0) (good_EGo _ _) ?_
  have hg : ∀ L, EGo k 0 18 [.ptr k 0, .int .i64 1] (G.ext L) = .ok (.int .i64 0) (G.ext L) := fun L => ego18 (h.ext L)
  have hk : ∀ L, (G.ext L).get k = _ := fun L => Heap.get_ext_old h.ok h.row L
  simp only [go_sem, C40]
  refine CL.of (f15_no (h.ext _) 1 rfl) ?_
  rintro _ G' ⟨rfl, hG⟩; rw [hG]; clear hG
  simp only [go_sem, zS, hg]
  refine CL.of (f78_ok hs hsm hL) ?_
  rintro _ M ⟨⟨cv, ev, dv, rfl, haok⟩, L, hM⟩
  have hMok : M.ok := by rw [hM]; exact Heap.ok_ext (Heap.ok_ext h.ok _) _
  have e0 := get_of_ext hM (i := 0) rfl
  have g0 := fun L => Heap.get_ext_old hMok e0 L
  have hMh : ∀ L, isHd (M.ext L) k .nils .nils [] [] := fun L => by rw [hM]; exact ((h.ext _).ext _).ext L
  have gk := fun L => (hMh L).row
  have hsm' : smallS (⟨1, 4, s.fr, s.to, false, s.cells, s.evs, s.done, cv, ev, dv⟩ : Sh) := ⟨hsm.b, hsm.c, hsm.e, hsm.d⟩
  have hao : ∀ L, (⟨1, 4, s.fr, s.to, false, s.cells, s.evs, s.done, cv, ev, dv⟩ : Sh).ok (M.ext L) := fun L => ⟨haok.c.ext L, haok.e.ext L, haok.d.ext L, haok.dok.ext L, haok.cl, haok.el, haok.dl⟩
  refine WW.nil ?_
  have hw : IntKind.i64.wrap (4 - 1) = 3 := rfl
  simp only [go_sem, g0, gk, hid, hep, hfz, hw]
  refine CL.of (f87_nil (s := ⟨1, 4, s.fr, s.to, false, s.cells, s.evs, s.done, cv, ev, dv⟩) (hMh _) (hao _) hsm') ?_
  rintro _ M2 ⟨rfl, ⟨lv2, h2⟩, n2⟩
  have hMn : Nx k G M := by rw [hM]; exact (Nx.ext h.ok _).trans (Nx.ext (Heap.ok_ext h.ok _) _)
  refine WW.nil ?_
  simp only [go_sem]
  rw [Heap.ext_nil]
  exact ⟨⟨lv2, cv, ev, dv, h2⟩, (hMn.trans (Nx.ext hMok _)).trans n2⟩
theorem f13_err5 (h : isHd G k lv gv hs gs) (m : Int) (data : List Nat) (h40 : ∀ L, FnOk Tryz.prog 40 [.ptr k 0, .agg [.int .i64 5, .int .i64 1, .int .i64 m, .int .i64 0, .int .i64 0, .int .i64 0, .int .i64 0, .str [], .str [], .str [], .int .i64 0, .nils, .str [], .str data, .nils, .nils]] (G.ext L) fun r G' => r = .iface 63 (.int .i64 22) ∧ G' = G.ext L) :
    FnOk Tryz.prog 13 [.ptr k 0, .agg [.int .i64 5, .int .i64 1, .int .i64 m, .int .i64 0, .int .i64 0, .int .i64 0, .int .i64 0, .str [], .str [], .str [], .int .i64 0, .nils, .str [], .str data, .nils, .nils]] G fun r G' => r = .tup [.agg zA, .iface 63 (.int .i64 22)] ∧ isHd G' k lv gv hs gs ∧ Nx k G G' := by
  refine FnOk.of_WW Tryz.func13 rfl C13ok R13ok E0 good_E0 ?_
  have hk : ∀ L, (G.ext L).get k = _ := fun L => Heap.get_ext_old h.ok h.row L
  have hset := fun b (l : List Blk) (α : Type) (c' : Heap → α) => Heap.setC_here h.ok h.row b l c'
  simp only [go_sem, C13, hk]
  refine CL.of (h40 _) ?_
  rintro _ G' ⟨rfl, hG⟩; rw [hG]; clear hG
  simp only [go_sem]
  refine CL.of (f42_some (x := .int .i64 0) (get_lit rfl) 22) ?_
  rintro _ G' ⟨rfl, hG⟩
  rw [hG, Heap.set_ext_key _ _ _ _ (by exact Nat.lt_of_sub_eq_succ rfl)]
  clear hG
  simp only [go_sem, hk, hset, zA]
  exact ⟨h.reset.ext _, Nx.set h.ok h.row _ _⟩
theorem f13_new (h : isHd G k .nils .nils [] []) {s : Sh} (hs : isSh s) (hsm : smallS s) (hL : (imgT s).length < 200001) (hid : s.id = 1) (hep : s.ep = 3) (hfz : s.frz = true) :
    FnOk Tryz.prog 13 [.ptr k 0, .agg [.int .i64 5, .int .i64 1, .int .i64 4, .int .i64 0, .int .i64 0, .int .i64 0, .int .i64 0, .str [], .str [], .str [], .int .i64 0, .nils, .str [], .str (wrapT (imgT s)), .nils, .nils]] G fun r G' => r = .tup [.agg zA, .nili] ∧ (∃ lv' cv ev dv, isHd G' k lv' .nils [⟨1, 4, s.fr, s.to, false, s.cells, s.evs, s.done, cv, ev, dv⟩] []) ∧ Nx k G G' := by
  refine FnOk.of_WW Tryz.func13 rfl C13ok R13ok E0 good_E0 ?_
  have hk : ∀ L, (G.ext L).get k = _ := fun L => Heap.get_ext_old h.ok h.row L
  simp only [go_sem, C13, hk]
  refine CL.of (f40_new (h.ext _) hs hsm hL hid hep hfz) ?_
  rintro _ G' ⟨rfl, ⟨lv', cv, ev, dv, hhd⟩, hnx⟩
  have e1 := hnx.keep (G.key 1) _ (ne_key h.ok h.row 1) (get_lit rfl)
  have e3 := hnx.keep (G.key 3) _ (ne_key h.ok h.row 3) (get_lit rfl)
  have g1 := fun L => Heap.get_ext_old hhd.ok e1 L
  have g3 := fun L => Heap.get_ext_old hhd.ok e3 L
  have s1 := fun b (l : List Blk) (α : Type) (c' : Heap → α) => Heap.setC_here hhd.ok e1 b l c'
  have k1 := fun b (l : List Blk) => Heap.get_set_here hhd.ok e1 b l
  refine WW.nil ?_
  simp only [go_sem]
  refine CL.of (f42_none _) ?_
  rintro _ G' ⟨rfl, hG⟩; rw [hG]; clear hG
  simp only [go_sem]
  refine CL.of (f43_ok none 10) ?_
  rintro _ G' ⟨rfl, hG⟩; rw [hG]; clear hG
  simp only [go_sem, g1, g3, s1, k1]
  exact ⟨rfl, ⟨lv', cv, ev, dv, (hhd.cell e1 _).ext _⟩, ((Nx.ext h.ok _).trans hnx).cell h.ok hhd.ok e1 _ _⟩
theorem f13_there (h : isHd G k lv gv hs gs) {i : Nat} {s : Sh} (hx : idx (fun s => decide (s.id = 1)) hs 0 = i) (hi : hs[i]? = some s) (m : Int) (data : List Nat) : FnOk Tryz.prog 13 [.ptr k 0, .agg [.int .i64 5, .int .i64 1, .int .i64 m, .int .i64 0, .int .i64 0, .int .i64 0, .int .i64 0, .str [], .str [], .str [], .int .i64 0, .nils, .str [], .str data, .nils, .nils]] G fun r G' => r = .tup [.agg zA, .iface 63 (.int .i64 22)] ∧ isHd G' k lv gv hs gs ∧ Nx k G G' := f13_err5 h m data fun L => f40_there (h.ext L) hx hi m data
theorem f13_gone (h : isHd G k lv gv hs gs) (hx : idx (fun s => decide (s.id = 1)) hs 0 = -1) {m : Int} (hm : m ≤ goneN gs 1) (data : List Nat) : FnOk Tryz.prog 13 [.ptr k 0, .agg [.int .i64 5, .int .i64 1, .int .i64 m, .int .i64 0, .int .i64 0, .int .i64 0, .int .i64 0, .str [], .str [], .str [], .int .i64 0, .nils, .str [], .str data, .nils, .nils]] G fun r G' => r = .tup [.agg zA, .iface 63 (.int .i64 22)] ∧ isHd G' k lv gv hs gs ∧ Nx k G G' := f13_err5 h m data fun L => f40_gone (h.ext L) hx hm data
/-- what is frozen is given away -/
theorem f41_away {s : Sh} (h : isHd G k lv .nils [s] []) {n0 n1 : Int} (n2 n3 n4 : Int) (x0 x1 x2 x3 x4 x5 x6 x7 x8 x9 : AV) (hid : s.id = n0) (he : s.ep = n1) (h0 : 0 ≤ s.ep) (hf : s.frz = true) (kind : Int) (hkd : kind = 6) :
    FnOk Tryz.prog 41 [.ptr k 0, .agg [.int .i64 kind, .int .i64 n0, .int .i64 n1, .int .i64 n2, .int .i64 n3, .int .i64 n4, x0, x1, x2, x3, x4, x5, x6, x7, x8, x9]] G fun r G' => r = .nili ∧ (∃ lv' gv', isHd G' k lv' gv' [] [⟨s.id, s.ep⟩]) ∧ Nx k G G' := by
  subst hkd
  refine FnOk.of_WW Tryz.func41 rfl C41ok R41ok E0 good_E0 ?_
  simp only [go_sem, C41]
  refine CL.of (f88_yes (h.ext _) (n := n0) (e := n1) (i := 0) (idx_one (decide_eq_true hid)) rfl he) ?_
  rintro _ _ ⟨rfl, rfl⟩
  simp only [go_sem, Sh.enc, Sh.cop, copB, Heap.key_ext, hf]
  refine CL.of (f91_only (s := ⟨s.id, s.ep, s.fr, s.to, true, s.cells, s.evs, s.done, zV (nilB s.cv) (G.key 1) 5 s.cells.length, zV (nilB s.ev) (G.key 2) 4 s.evs.length, zV (nilB s.dv) (G.key 3) 6 s.done.length⟩) (h.ext _) rfl h0) ?_
  rintro _ M ⟨rfl, ⟨c, gv', h1⟩, n1⟩
  refine WW.nil ?_
  simp only [go_sem]
  rw [Heap.ext_nil]
  exact ⟨⟨_, gv', h1⟩, (Nx.ext h.ok _).trans n1⟩
theorem f13_away {s : Sh} (h : isHd G k lv .nils [s] []) {n0 n1 : Int} (hid : s.id = n0) (he : s.ep = n1) (h0 : 0 ≤ s.ep) (hf : s.frz = true) :
    FnOk Tryz.prog 13 [.ptr k 0, .agg (rcE 6 n0 n1 0 0 0)] G fun r G' => r = .tup [.agg zA, .nili] ∧ (∃ lv' gv', isHd G' k lv' gv' [] [⟨s.id, s.ep⟩]) ∧ Nx k G G' := by
  refine (f13_fine h (kind := 6) (.inr (.inr (.inl rfl))) 0 0 0 (.int .i64 0) (.str []) (.str []) (.str []) (.int .i64 0) .nils (.str []) (.str []) .nils .nils (n0 := n0) (n1 := n1) (gs' := [⟨s.id, s.ep⟩]) (hs' := fun l => l = []) fun L => (f41_away (h.ext L) 0 0 0 _ _ _ _ _ _ _ _ _ _ hid he h0 hf 6 rfl).mono ?_).mono ?_
  · rintro r G' ⟨rfl, ⟨lv', gv', hh⟩, hn⟩
    exact ⟨rfl, ⟨lv', gv', _, rfl, hh⟩, hn⟩
  · rintro r G' ⟨rfl, ⟨lv', gv', l, rfl, hh⟩, hn⟩
    exact ⟨rfl, ⟨lv', gv', hh⟩, hn⟩
/-- another node is as it was -/
theorem isHd.other {k2 : K} {G' : Heap} {lv2 gv2 : AV} {hs2 : List Sh} {gs2 : List Gn} (h : isHd G k lv gv hs gs) (h2 : isHd G k2 lv2 gv2 hs2 gs2) (hne : k2 ≠ k) (hok' : G'.ok) (hn : Nx k G G') : isHd G' k2 lv2 gv2 hs2 gs2 := by
  refine ⟨hok', hn.keep _ _ (Ne.symm hne) h2.row, hn.arr h.row (by decide) h2.l, ?_, fun s hs => hn.sh h.row (h2.each s hs) (h2.small s hs), h2.small, h2.few⟩
  rcases h2.g with ⟨e1, e2⟩ | ⟨j, off, ex, cap, rfl, hj, hx⟩
  · exact .inl ⟨e1, e2⟩
  · refine .inr ⟨j, off, ex, cap, rfl, Nat.lt_of_lt_of_le hj hn.le, fun hxs => ?_⟩
    obtain ⟨r, wr, rows, e1, e2, e3⟩ := hx hxs
    refine ⟨r, wr, rows, e1, hn.keep j _ (fun e => ?_) e2, e3⟩
    subst e
    rw [h.row] at e2
    cases e2
    have hl := h.l
    cases gs2 with
    | nil => exact hxs rfl
    | cons c l =>
      cases r with
      | zero =>
        have h6 := congrArg (fun z => z[0]?) e3
        simp only [List.map_cons, List.length_cons, List.drop_zero, List.take_succ_cons, List.getElem?_cons_zero, Gn.enc] at h6
        have h7 := Option.some.inj h6
        injection h7 with h7 _
        subst h7
        rcases hl with ⟨e, _⟩ | ⟨_, _, _, _, e, _⟩ <;> cases e
      | succ r => simp at e3
end
end Go.Proofs
/- a shard frozen at a node; no shards: walked. -/

set_option linter.all false
set_option linter.all false
set_option maxRecDepth 100000
namespace Go.Proofs
open Go Go.Ev
variable {H : Heap}

section
variable {G : Heap} {k : K} {lv gv : AV} {hs : List Sh} {gs : List Gn}
theorem f13_frz {s : Sh} (h : isHd G k lv gv [s] gs) {n0 n1 : Int} (hid : s.id = n0) (he : s.ep = n1) : FnOk Tryz.prog 13 [.ptr k 0, .agg (rcE 3 n0 n1 0 0 0)] G fun r G' => r = .tup [.agg zA, .nili] ∧ (∃ lv' cv ev dv, isHd G' k lv' gv [⟨s.id, s.ep, s.fr, s.to, true, s.cells, s.evs, s.done, cv, ev, dv⟩] gs) ∧ Nx k G G' := by
  refine FnOk.of_WW Tryz.func13 rfl C13ok R13ok E0 good_E0 ?_
  have hk : ∀ L, (G.ext L).get k = _ := fun L => Heap.get_ext_old h.ok h.row L
  simp only [go_sem, C13, hk, rcE]
  refine CL.of (f41_freeze (h.ext _) 0 0 0 _ _ _ _ _ _ _ _ _ _ hid he 3 rfl) ?_
  rintro _ G' ⟨rfl, ⟨lv', cv, ev, dv, hhd⟩, hnx⟩
  have e1 := hnx.keep (G.key 1) _ (ne_key h.ok h.row 1) (get_lit rfl)
  have e3 := hnx.keep (G.key 3) _ (ne_key h.ok h.row 3) (get_lit rfl)
  have g1 := fun L => Heap.get_ext_old hhd.ok e1 L
  have g3 := fun L => Heap.get_ext_old hhd.ok e3 L
  have s1 := fun b (l : List Blk) (α : Type) (c' : Heap → α) => Heap.setC_here hhd.ok e1 b l c'
  have k1 := fun b (l : List Blk) => Heap.get_set_here hhd.ok e1 b l
  refine WW.nil ?_
  simp only [go_sem]
  refine CL.of (f42_none _) ?_
  rintro _ G' ⟨rfl, hG⟩; rw [hG]; clear hG
  simp only [go_sem]
  refine CL.of (f43_ok none 10) ?_
  rintro _ G' ⟨rfl, hG⟩; rw [hG]; clear hG
  simp only [go_sem, g1, g3, s1, k1]
  exact ⟨rfl, ⟨lv', cv, ev, dv, (hhd.cell e1 _).ext _⟩, ((Nx.ext h.ok _).trans hnx).cell h.ok hhd.ok e1 _ _⟩
theorem f17_none (h : isHd G k lv gv [] gs) : FnOk Tryz.prog 17 [.ptr k 0] G fun r G' => r = .nils ∧ G' = G := by
  refine FnOk.drop (R := fun r => r = .nils) ?_ (by rintro v rfl ρ; rw [AV.ren])
  refine FnOk.of_WW Tryz.func17 rfl C17ok R17ok E0 good_E0 ?_
  have hk : ∀ L, (G.ext L).get k = _ := fun L => Heap.get_ext_old h.ok h.row L
  have hlen := fun G => h.l.len G
  have hren := h.l.ren
  simp only [go_sem, C17, hk, hlen]
  refine LL.st good_E0 (fun _ : Nat => 0) (fun _ => True) (fun _ => [((.o (.o .z)), .nils), ((.o (.i (.o .z))), lv), ((.i (.i (.o .z))), .int .i64 0), ((.o (.o (.i .z))), .int .i64 0)]) (fun _ => []) ?_ 0 (σ := []) (Wk.of rfl (by decide) (by simp only [go_sem, hren]; first | done | rfl | trace_state) (by simp only [go_sem])) trivial
  rintro _ _
  simp only [go_sem]
  exact ⟨_, rfl⟩
end
end Go.Proofs
/- a cell of a shard of one's own written; how long a shard's bytes are. -/

set_option linter.all false
set_option linter.all false
set_option maxRecDepth 100000
namespace Go.Proofs
open Go Go.Ev
variable {H : Heap}

theorem imgT_len {s : Sh} (hs : isSh s) (hsm : smallS s) : (imgT s).length ≤ 722 + 600 * s.cells.length + 600 * s.evs.length + 400 * s.done.length := by
  obtain ⟨-, -, -, -, hh, hdn⟩ := id hs
  have hc1 := hsm.c
  have he1 := hsm.e
  have hd1 := hsm.d
  have a := topT_len hs hc1
  have b := allT_len cellT 600 s.cells.length s.cells fun c hc => cellT_len (hh.1.cell hc)
  have c := allT_len evT 600 s.evs.length s.evs fun e he => evT_len (hh.2.1 e he).2
  have d := allT_len dnT 400 s.done.length s.done fun d hd => dnT_len ((done_iff.1 hdn).1 d hd) (hsm.b d hd)
  have e : (numT s.evs.length).length ≤ 11 := numT_small (by omega)
  have f : (numT s.done.length).length ≤ 11 := numT_small (by omega)
  unfold imgT
  simp only [List.length_append]
  omega
theorem Arr.far {B M : Heap} {e : Nat} {v : AV} {xs : List (List AV)} (hB : Arr B e v xs) (hM : Arr M e v xs) {j : K} (hj : B.nx.toNat ≤ j.toNat) (b : Blk) : Arr (M.set j b) e v xs := by
  rcases hM with ⟨e1, e2⟩ | ⟨k, off, ex, cap, rfl, hk, hx⟩
  · exact .inl ⟨e1, e2⟩
  · rcases hB with ⟨e1, _⟩ | ⟨k', off', ex', cap', e1, hk', _⟩
    · cases e1
    · injection e1 with e1
      subst e1
      refine .inr ⟨k, off, ex, cap, rfl, hk, fun hxs => ?_⟩
      obtain ⟨r, wr, rows, h1, h2, h3⟩ := hx hxs
      refine ⟨r, wr, rows, h1, ?_, h3⟩
      rw [Heap.get_set, if_neg fun e => ?_]
      · exact h2
      · subst e
        omega
theorem Arr.nil_set {M : Heap} {e : Nat} {v : AV} (hM : Arr M e v []) (j : K) (b : Blk) : Arr (M.set j b) e v [] := by
  rcases hM with ⟨e1, e2⟩ | ⟨k, off, ex, cap, rfl, hk, hx⟩
  · exact .inl ⟨e1, e2⟩
  · exact .inr ⟨k, off, ex, cap, rfl, hk, fun hxs => absurd rfl hxs⟩
section
variable {M B : Heap} {k : K} {lv gv : AV} {hs : List Sh} {gs : List Gn}
theorem isHd.far (h : isHd M k lv gv hs gs) (hB : isHd B k lv gv hs gs) {j : K} (hj : B.nx.toNat ≤ j.toNat) {rows : List (List AV)} (hc : M.get j = some (.row true 8 rows)) (b : Blk) (L : List Blk) : isHd ((M.set j b).ext L) k lv gv hs gs := by
  have hkj : j ≠ k := fun e => by
    subst e
    have := hB.ok _ _ hB.row
    omega
  refine isHd.ext ⟨Heap.ok_set h.ok hc, ?_, Arr.far hB.l h.l hj b, Arr.far hB.g h.g hj b, fun s hs => ⟨(h.each s hs).c.set hc (by decide), (h.each s hs).e.set hc (by decide), (h.each s hs).d.set hc (by decide), bareL.ok (h.small s hs).b _, (h.each s hs).cl, (h.each s hs).el, (h.each s hs).dl⟩, h.small, h.few⟩ L
  rw [Heap.get_set, if_neg hkj]
  exact h.row
theorem isHd.nil8 (h : isHd M k lv gv [] gs) {j : K} {rows : List (List AV)} (hc : M.get j = some (.row true 8 rows)) (b : Blk) (L : List Blk) : isHd ((M.set j b).ext L) k lv gv [] gs := by
  have hkj : j ≠ k := fun e => by
    subst e
    have := h.row
    rw [hc] at this
    cases this
  refine isHd.ext ⟨Heap.ok_set h.ok hc, ?_, Arr.nil_set h.l j b, h.g.set hc (by decide), fun s hs => absurd hs List.not_mem_nil, h.small, h.few⟩ L
  rw [Heap.get_set, if_neg hkj]
  exact h.row
theorem Sh.ok.set8 {s : Sh} (h : s.ok M) (hb : smallS s) {j : K} {rows : List (List AV)} (hc : M.get j = some (.row true 8 rows)) (b : Blk) (L : List Blk) : s.ok ((M.set j b).ext L) := Sh.ok.ext ⟨h.c.set hc (by decide), h.e.set hc (by decide), h.d.set hc (by decide), bareL.ok hb.b _, h.cl, h.el, h.dl⟩ L
end
end Go.Proofs
/- a shard split at a node: walked. -/

set_option linter.all false
set_option linter.all false
set_option maxRecDepth 100000
namespace Go.Proofs
open Go Go.Ev
variable {H : Heap}

theorem aS_hist (cv ev dv : AV) : isHist (aS cv ev dv).evs (aS cv ev dv).cells := by
  have := hist_put hist_nil k_key (v := [118]) (by show (1 : Int) ≤ 12; decide) (d := false) (fun h => absurd h Bool.false_ne_true) (by show (0 : Int) < 1000000000000; decide)
  exact this
theorem aS_sh (cv ev dv : AV) : isSh (aS cv ev dv) := ⟨⟨by show (1 : Int) ≤ 1; decide, by show (1 : Int) ≤ 1000000000000; decide, by show (1 : Int) ≤ 1; decide, by show (1 : Int) ≤ 1000000; decide⟩, k_span, fun c hc => by
  rw [List.mem_singleton.1 hc]
  exact k_has 107, by show (1 : Int) ≤ 24; decide, aS_hist cv ev dv, done_iff.2 ⟨fun c hc => by
    rw [List.mem_singleton.1 hc]
    exact ⟨⟨by show (0 : Int) ≤ 0; decide, by show (0 : Int) < 3; decide, by show (1 : Int) ≤ 1; decide, by show (1 : Int) ≤ 1000000000000; decide⟩, putA_is (by decide) (by decide)⟩, List.pairwise_singleton ..⟩⟩
theorem aS_split (cv ev dv : AV) : okSplit (aS cv ev dv) 2 3 ∧ inSplit (aS cv ev dv) [109] :=
  ⟨⟨⟨aS_sh cv ev dv, Bool.false_ne_true⟩, ⟨by decide, by decide⟩, ⟨by decide, by decide⟩, by decide⟩, k_has 109, ltS_nil 109 []⟩
/-- the two halves -/
structure half (a b : Sh) : Prop where
  a1 : a.id = 2
  a2 : a.fr = []
  a3 : a.to = [109]
  a4 : a.frz = false
  b1 : b.id = 3
  b2 : b.fr = [109]
  b3 : b.to = []
  b4 : b.frz = false
theorem part_small {a s : Sh} {id : Int} {f t : List Nat} (h : sameSh a (saidPart s id f t)) (hs : smallS s) : smallS a := by
  obtain ⟨_, _, _, _, _, h1, h2, h3⟩ := h
  refine ⟨by rw [h3]; exact hs.b, ?_, ?_, by rw [h3]; exact hs.d⟩
  · rw [h1]
    exact Nat.lt_of_le_of_lt (List.length_filter_le ..) hs.c
  · rw [h2]
    exact Nat.lt_of_le_of_lt (List.length_filter_le ..) hs.e
section
variable {G : Heap} {k : K} {lv : AV}
theorem f89_ok {cv ev dv cv' ev' dv' : AV} (h : isHd G k lv .nils [aS cv ev dv] []) (hs : (aS cv' ev' dv').ok G) :
    FnOk Tryz.prog 89 [.ptr k 0, .agg (aS cv' ev' dv').enc, .agg [.int .i64 7, .int .i64 1, .int .i64 1, .int .i64 2, .int .i64 3, .int .i64 0, .int .i64 0, .str [], .str [], .str [], .int .i64 0, .nils, .str [109], .str [], .nils, .nils]] G fun r G' => r = .nili ∧ (∃ lv' gv' a b, isHd G' k lv' gv' [a, b] [⟨1, 1⟩] ∧ half a b) ∧ Nx k G G' := by
  refine FnOk.of_WW Tryz.func89 rfl C89ok R89ok E0 good_E0 ?_
  have hk : ∀ L, (G.ext L).get k = _ := fun L => Heap.get_ext_old h.ok h.row L
  have hlen := fun G => h.l.len G
  have hidx : ∀ n : Int, ¬ n = 1 → idx (fun s : Sh => decide (s.id = n)) [aS cv ev dv] 0 = -1 := fun n hn => by
    unfold idx
    rw [decide_eq_false (show ¬ (aS cv ev dv).id = n from fun e => hn e.symm), if_neg Bool.false_ne_true]
    rfl
  simp only [go_sem, C89, Sh.enc, aS]
  refine CL.of (f142_yes (h.ext _) (hidx 2 (by decide)) rfl) ?_
  rintro _ G' ⟨rfl, hG⟩; rw [hG]; clear hG
  simp only [go_sem]
  refine CL.of (f142_yes (h.ext _) (hidx 3 (by decide)) rfl) ?_
  rintro _ G' ⟨rfl, hG⟩; rw [hG]; clear hG
  simp only [go_sem, hk, hlen]
  refine CL.of (f143_yes (s := aS cv' ev' dv') (hs.ext _) (by show 1 < 100000; decide) (by show 1 < 100000; decide) (aS_split ..).1 (aS_split ..).2) ?_
  rintro _ M ⟨a, b, L, rfl, hM, ha, hb, sa, sb⟩
  have hMh : isHd M k lv .nils [aS cv ev dv] [] := by rw [hM]; exact (h.ext _).ext _
  have hMn : Nx k G M := by rw [hM]; exact (Nx.ext h.ok _).trans (Nx.ext (Heap.ok_ext h.ok _) _)
  have e0 := get_of_ext hM (i := 0) rfl
  have g0 := fun L => Heap.get_ext_old hMh.ok e0 L
  have sma := part_small sa (aS_small cv' ev' dv')
  have smb := part_small sb (aS_small cv' ev' dv')
  have hf : half a b := ⟨sa.1, sa.2.2.1, sa.2.2.2.1, sa.2.2.2.2.1, sb.1, sb.2.2.1, sb.2.2.2.1, sb.2.2.2.2.1⟩
  refine WW.nil ?_
  simp only [go_sem, Sh.enc, g0]
  refine CL.of (f91_only (s := aS cv' ev' dv') (hMh.ext _) rfl (by show (0 : Int) ≤ 1; decide)) ?_
  rintro _ M1 ⟨rfl, ⟨c, gv', h1⟩, n1⟩
  have qa := n1.keep (M.key 0) _ (ne_key hMh.ok hMh.row 0) (get_lit rfl)
  have qb := n1.keep (M.key 1) _ (ne_key hMh.ok hMh.row 1) (get_lit rfl)
  have ra := fun L => Heap.get_ext_old h1.ok qa L
  have ha1 := n1.sh (hMh.ext _).row (ha.ext _) sma
  have hb1 := n1.sh (hMh.ext _).row (hb.ext _) smb
  refine WW.nil ?_
  simp only [go_sem, ra]
  refine CL.of (f87_first (s := a) (h1.ext _) (ha1.ext _) sma) ?_
  rintro _ M2 ⟨rfl, ⟨lv2, h2⟩, n2⟩
  have qb2 := n2.keep (M.key 1) _ (by exact ne_key hMh.ok hMh.row 1) (Heap.get_ext_old h1.ok qb _)
  have rb := fun L => Heap.get_ext_old h2.ok qb2 L
  have hb2 := n2.sh (h1.ext _).row (hb1.ext _) smb
  refine WW.nil ?_
  simp only [go_sem, rb]
  have hst : sorted2 [a, b] := by
    show ¬ cmpS b.fr a.fr b.id a.id < 0
    rw [hf.b2, hf.a2]
    have hc : cmpT [109] [] = 1 := by
      unfold cmpT
      rw [if_neg (not_ltS_nil _), if_pos (by rintro (h | h); exact not_ltS_nil _ h; cases h)]
    unfold cmpS
    rw [hc, if_pos (by decide)]
    decide
  refine CL.of (f87_more (a := a) (s := b) (h2.ext _) (by rw [hf.a1, hf.b1]; decide) (hb2.ext _) smb hst) ?_
  rintro _ M3 ⟨rfl, ⟨lv3, h3⟩, n3⟩
  refine WW.nil ?_
  simp only [go_sem]
  rw [Heap.ext_nil]
  exact ⟨⟨lv3, gv', a, b, h3, hf⟩, ((hMn.trans ((Nx.ext hMh.ok _).trans n1)).trans ((Nx.ext h1.ok _).trans n2)).trans ((Nx.ext h2.ok _).trans n3)⟩
theorem f41_split {cv ev dv : AV} (h : isHd G k lv .nils [aS cv ev dv] []) : FnOk Tryz.prog 41 [.ptr k 0, .agg [.int .i64 7, .int .i64 1, .int .i64 1, .int .i64 2, .int .i64 3, .int .i64 0, .int .i64 0, .str [], .str [], .str [], .int .i64 0, .nils, .str [109], .str [], .nils, .nils]] G fun r G' => r = .nili ∧ (∃ lv' gv' a b, isHd G' k lv' gv' [a, b] [⟨1, 1⟩] ∧ half a b) ∧ Nx k G G' := by
  refine FnOk.of_WW Tryz.func41 rfl C41ok R41ok E0 good_E0 ?_
  have hok := h.each (aS cv ev dv) (by simp)
  have hcl : (aS cv ev dv).cells.length = 1 := rfl
  simp only [go_sem, C41]
  refine CL.of (f88_yes (s := aS cv ev dv) (h.ext _) (idx_one (decide_eq_true rfl)) rfl rfl) ?_
  rintro _ _ ⟨rfl, rfl⟩
  simp only [go_sem, Sh.enc, Sh.cop, copB, Heap.key_ext, aS]
  refine CL.of (f89_ok (cv' := zV (nilB cv) (G.key 1) 5 1) (ev' := zV (nilB ev) (G.key 2) 4 1) (dv' := zV (nilB dv) (G.key 3) 6 1) (h.ext _) (by exact Sh.cop_con hok rfl rfl rfl 1 1 [] [] false)) ?_
  rintro _ G' ⟨rfl, ⟨lv', gv', a, b, hhd, hf⟩, hnx⟩
  refine WW.nil ?_
  simp only [go_sem]
  rw [Heap.ext_nil]
  exact ⟨⟨lv', gv', a, b, hhd, hf⟩, (Nx.ext h.ok _).trans hnx⟩
theorem f13_split {cv ev dv : AV} (h : isHd G k lv .nils [aS cv ev dv] []) : FnOk Tryz.prog 13 [.ptr k 0, .agg [.int .i64 7, .int .i64 1, .int .i64 1, .int .i64 2, .int .i64 3, .int .i64 0, .int .i64 0, .str [], .str [], .str [], .int .i64 0, .nils, .str [109], .str [], .nils, .nils]] G fun r G' => r = .tup [.agg zA, .nili] ∧ (∃ lv' gv' a b, isHd G' k lv' gv' [a, b] [⟨1, 1⟩] ∧ half a b) ∧ Nx k G G' := by
  refine (f13_fine h (kind := 7) (.inr (.inr (.inr rfl))) 2 3 0 (.int .i64 0) (.str []) (.str []) (.str []) (.int .i64 0) .nils (.str [109]) (.str []) .nils .nils (n0 := 1) (n1 := 1) (gs' := [⟨1, 1⟩]) (hs' := fun l => ∃ a b, l = [a, b] ∧ half a b) fun L => (f41_split (h.ext L)).mono ?_).mono ?_
  · rintro r G' ⟨rfl, ⟨lv', gv', a, b, hh, hf⟩, hn⟩
    exact ⟨rfl, ⟨lv', gv', _, ⟨a, b, rfl, hf⟩, hh⟩, hn⟩
  · rintro r G' ⟨rfl, ⟨lv', gv', l, ⟨a, b, rfl, hf⟩, hh⟩, hn⟩
    exact ⟨rfl, ⟨lv', gv', a, b, hh, hf⟩, hn⟩
end
end Go.Proofs
/- a record's bytes: of a number and an epoch: walked. -/


set_option linter.all false
set_option linter.all false
set_option maxRecDepth 100000
namespace Go.Proofs
open Go Go.Ev
variable {H : Heap}

/-- no op -/
def zO : List AV := [.int .i64 0, .str [], .str [], .str [], .int .i64 0, .nils]
theorem f113_nil : FnOk Tryz.prog 113 [.nils, .nils] H fun r G => r = .bool true ∧ G = H := by
  refine FnOk.drop (R := fun r => r = .bool true) ?_ (by rintro v rfl ρ; rw [AV.ren])
  refine FnOk.of_WW Tryz.func113 rfl C113ok R113ok E0 good_E0 ?_
  simp only [go_sem, C113]
  refine LL.st good_E0 (fun _ : Nat => 0) (fun _ => True) (fun _ => [((.i (.o (.i .z))), .int .i64 0), ((.o (.i (.i .z))), .int .i64 0)]) (fun _ => []) ?_ 0 (σ := []) (Wk.of rfl (by decide) (by simp only [go_sem]; first | done | rfl | trace_state) (by simp only [go_sem])) trivial
  rintro _ _
  simp only [go_sem]
  exact ⟨_, rfl⟩
theorem f68_zero : FnOk Tryz.prog 68 [.agg zO, .agg zO] H fun r G => r = .bool true ∧ G = H := by
  refine FnOk.drop (R := fun r => r = .bool true) ?_ (by rintro v rfl ρ; rw [AV.ren])
  refine FnOk.of_WW Tryz.func68 rfl C68ok R68ok E0 good_E0 ?_
  simp only [go_sem, C68, zO]
  refine CL.of f113_nil ?_
  rintro _ G' ⟨rfl, hG⟩; rw [hG]; clear hG
  simp only [go_sem]
  exact ⟨_, rfl⟩
theorem f67_zero : FnOk Tryz.prog 67 [.agg zO] H fun r G => r = .bool false ∧ G = H := by
  refine FnOk.drop (R := fun r => r = .bool false) ?_ (by rintro v rfl ρ; rw [AV.ren])
  refine FnOk.of_WW Tryz.func67 rfl C67ok R67ok E0 good_E0 ?_
  simp only [go_sem, C67, zO]
  exact ⟨_, rfl⟩
theorem f29_zero : FnOk Tryz.prog 29 [.agg zO] H fun r G => r = .str [] ∧ G = H := by
  refine FnOk.drop (R := fun r => r = .str []) ?_ (by rintro v rfl ρ; rw [AV.ren])
  refine FnOk.of_WW Tryz.func29 rfl C29ok R29ok E0 good_E0 ?_
  have h := f67_zero (H := H.ext [.row true 6 [zO]])
  simp only [zO] at h
  simp only [go_sem, C29, zO]
  refine CL.of h ?_
  rintro _ G' ⟨rfl, hG⟩; rw [hG]; clear hG
  simp only [go_sem]
  exact ⟨_, rfl⟩
theorem f28_0 {n : Nat} (hn : n < 64) : FnOk Tryz.prog 28 [.int .i64 (n : Int)] H fun r G => r = .str [n] ∧ G = H := by
  have h := f28_ok (H := H) (n := n) (by omega)
  rw [numT_lo hn] at h
  exact h
theorem f30_0 : FnOk Tryz.prog 30 [.str []] H fun r G => r = .str [0] ∧ G = H := by
  have h := f30_ok (H := H) (s := []) (by decide)
  have e : textT [] = [0] := by show numT 0 ++ [] = [0]; rw [numT_lo (by decide)]; rfl
  rw [e] at h
  exact h
noncomputable def EZ (f : FuncId) (args : List AV) (H : Heap) : RC :=
  match f with
  | 67 => match args with | [.agg [.int .i64 0, .str [], .str [], .str [], .int .i64 0, .nils]] => .ok (.bool false) H | _ => .fail
  | 68 => match args with | [.agg [.int .i64 0, .str [], .str [], .str [], .int .i64 0, .nils], .agg [.int .i64 0, .str [], .str [], .str [], .int .i64 0, .nils]] => .ok (.bool true) H | _ => .fail
  | 29 => match args with | [.agg [.int .i64 0, .str [], .str [], .str [], .int .i64 0, .nils]] => .ok (.str []) H | _ => .fail
  | 30 => match args with | [.str []] => .ok (.str [0]) H | _ => .fail
  | 28 => match args with | [.int .i64 0] => .ok (.str [0]) H | _ => .fail
  | _ => .fail
theorem good_EZ : Ev.Good Tryz.prog EZ := by
  intro f args H r G he φ w args' ha hw
  refine (?_ : FnOk Tryz.prog f args H fun v' G' => v' = r ∧ G' = G).one φ w args' ha hw
  unfold EZ at he
  split at he
  · split at he
    · cases he; exact f67_zero
    · cases he
  · split at he
    · cases he; exact f68_zero
    · cases he
  · split at he
    · cases he; exact f29_zero
    · cases he
  · split at he
    · cases he; exact f30_0
    · cases he
  · split at he
    · cases he; exact f28_0 (n := 0) (by decide)
    · cases he
  · cases he
theorem ez71 (H : Heap) : EZ 67 [.agg [.int .i64 0, .str [], .str [], .str [], .int .i64 0, .nils]] H = .ok (.bool false) H := rfl
theorem ez72 (H : Heap) : EZ 68 [.agg [.int .i64 0, .str [], .str [], .str [], .int .i64 0, .nils], .agg [.int .i64 0, .str [], .str [], .str [], .int .i64 0, .nils]] H = .ok (.bool true) H := rfl
theorem ez38 (H : Heap) : EZ 29 [.agg [.int .i64 0, .str [], .str [], .str [], .int .i64 0, .nils]] H = .ok (.str []) H := rfl
theorem ez39 (H : Heap) : EZ 30 [.str []] H = .ok (.str [0]) H := rfl
theorem ez37 (H : Heap) : EZ 28 [.int .i64 0] H = .ok (.str [0]) H := rfl
/-- the numbers of that record -/
def nN : List AV := [.int .i64 2, .int .i64 1, .int .i64 0, .int .i64 0, .int .i64 0]
theorem f27_rc : FnOk Tryz.prog 27 [.agg (rcE 3 2 1 0 0 0)] H fun r G => r = .bool true ∧ G = H := by
  refine FnOk.drop (R := fun r => r = .bool true) ?_ (by rintro v rfl ρ; rw [AV.ren])
  refine FnOk.of_WW Tryz.func27 rfl C27ok R27ok EZ good_EZ ?_
  simp only [go_sem, C27, rcE]
  refine LL.st good_EZ (fun i : Int => (5 - i).toNat) (fun i => i = 0 ∨ i = 1 ∨ i = 2 ∨ i = 3 ∨ i = 4 ∨ i = 5) (fun i => [((.o .z), .ptr (H.key 0) 0), ((.i (.i (.i (.o .z)))), .agg nN), ((.o (.o (.o (.i .z)))), .int .i64 i)])
    (fun _ => [.row true 16 [rcE 3 2 1 0 0 0]]) ?_ 0 (σ := [0]) (Wk.of rfl (by decide) (by simp only [go_sem, nN]; first | done | rfl | trace_state) (by simp only [go_sem, rcE]; first | done | rfl | trace_state)) (.inl rfl)
  rintro _ (rfl | rfl | rfl | rfl | rfl | rfl)
  · simp only [go_sem, nN, rcE]
    exact ⟨1, by decide, by decide, _, [0], rfl, Wk.of rfl (by decide) (by simp only [go_sem, nN]; first | done | rfl | trace_state) (by simp only [go_sem, rcE]; first | done | rfl | trace_state)⟩
  · simp only [go_sem, nN, rcE]
    exact ⟨2, by decide, by decide, _, [0], rfl, Wk.of rfl (by decide) (by simp only [go_sem, nN]; first | done | rfl | trace_state) (by simp only [go_sem, rcE]; first | done | rfl | trace_state)⟩
  · simp only [go_sem, nN, rcE]
    exact ⟨3, by decide, by decide, _, [0], rfl, Wk.of rfl (by decide) (by simp only [go_sem, nN]; first | done | rfl | trace_state) (by simp only [go_sem, rcE]; first | done | rfl | trace_state)⟩
  · simp only [go_sem, nN, rcE]
    exact ⟨4, by decide, by decide, _, [0], rfl, Wk.of rfl (by decide) (by simp only [go_sem, nN]; first | done | rfl | trace_state) (by simp only [go_sem, rcE]; first | done | rfl | trace_state)⟩
  · simp only [go_sem, nN, rcE]
    exact ⟨5, by decide, by decide, _, [0], rfl, Wk.of rfl (by decide) (by simp only [go_sem, nN]; first | done | rfl | trace_state) (by simp only [go_sem, rcE]; first | done | rfl | trace_state)⟩
  · simp only [go_sem, nN, rcE, ez71, ez72]
    exact ⟨_, rfl⟩
/-- its bytes -/
def bN : List Nat := [3, 2, 1, 0, 0, 0, 0, 0, 0, 0]
theorem f8_rc : FnOk Tryz.prog 8 [.agg (rcE 3 2 1 0 0 0)] H fun r G => r = .str bN ∧ G = H := by
  refine FnOk.drop (R := fun r => r = .str bN) ?_ (by rintro v rfl ρ; rw [AV.ren])
  refine FnOk.of_WW Tryz.func8 rfl C8ok R8ok EZ good_EZ ?_
  simp only [go_sem, C8, rcE]
  refine CL.of f27_rc ?_
  rintro _ G' ⟨rfl, hG⟩; rw [hG]; clear hG
  simp only [go_sem]
  refine CL.of (f28_0 (n := 3) (by decide)) ?_
  rintro _ G' ⟨rfl, hG⟩; rw [hG]; clear hG
  simp only [go_sem]
  refine LL.st good_EZ (S := Int × List Nat) (fun s => (5 - s.1).toNat) (fun s => s = (0, [3]) ∨ s = (1, [3, 2]) ∨ s = (2, [3, 2, 1]) ∨ s = (3, [3, 2, 1, 0]) ∨ s = (4, [3, 2, 1, 0, 0]) ∨ s = (5, [3, 2, 1, 0, 0, 0]))
    (fun s => [((.o .z), .ptr (H.key 0) 0), ((.o (.o .z)), .str s.2), ((.o (.i (.o (.o .z)))), .agg nN), ((.i (.i (.o (.o .z)))), .int .i64 s.1)])
    (fun _ => [.row true 16 [rcE 3 2 1 0 0 0]]) ?_ (0, [3]) (σ := [0]) (Wk.of rfl (by decide) (by simp only [go_sem, nN]; first | done | rfl | trace_state) (by simp only [go_sem, rcE]; first | done | rfl | trace_state)) (.inl rfl)
  rintro _ (rfl | rfl | rfl | rfl | rfl | rfl)
  · simp only [go_sem, nN, rcE]
    refine CL.of (f28_0 (n := 2) (by decide)) ?_
    rintro _ G' ⟨rfl, hG⟩; rw [hG]; clear hG
    simp only [go_sem]
    exact ⟨(1, [3, 2]), by decide, by simp, _, [0], rfl, Wk.of rfl (by decide) (by simp only [go_sem, nN]; first | done | rfl | trace_state) (by simp only [go_sem, rcE]; first | done | rfl | trace_state)⟩
  · simp only [go_sem, nN, rcE]
    refine CL.of (f28_0 (n := 1) (by decide)) ?_
    rintro _ G' ⟨rfl, hG⟩; rw [hG]; clear hG
    simp only [go_sem]
    exact ⟨(2, [3, 2, 1]), by decide, by simp, _, [0], rfl, Wk.of rfl (by decide) (by simp only [go_sem, nN]; first | done | rfl | trace_state) (by simp only [go_sem, rcE]; first | done | rfl | trace_state)⟩
  · simp only [go_sem, nN, rcE]
    refine CL.of (f28_0 (n := 0) (by decide)) ?_
    rintro _ G' ⟨rfl, hG⟩; rw [hG]; clear hG
    simp only [go_sem]
    exact ⟨(3, [3, 2, 1, 0]), by decide, by simp, _, [0], rfl, Wk.of rfl (by decide) (by simp only [go_sem, nN]; first | done | rfl | trace_state) (by simp only [go_sem, rcE]; first | done | rfl | trace_state)⟩
  · simp only [go_sem, nN, rcE]
    refine CL.of (f28_0 (n := 0) (by decide)) ?_
    rintro _ G' ⟨rfl, hG⟩; rw [hG]; clear hG
    simp only [go_sem]
    exact ⟨(4, [3, 2, 1, 0, 0]), by decide, by simp, _, [0], rfl, Wk.of rfl (by decide) (by simp only [go_sem, nN]; first | done | rfl | trace_state) (by simp only [go_sem, rcE]; first | done | rfl | trace_state)⟩
  · simp only [go_sem, nN, rcE]
    refine CL.of (f28_0 (n := 0) (by decide)) ?_
    rintro _ G' ⟨rfl, hG⟩; rw [hG]; clear hG
    simp only [go_sem]
    exact ⟨(5, [3, 2, 1, 0, 0, 0]), by decide, by simp, _, [0], rfl, Wk.of rfl (by decide) (by simp only [go_sem, nN]; first | done | rfl | trace_state) (by simp only [go_sem, rcE]; first | done | rfl | trace_state)⟩
  · simp only [go_sem, nN, rcE, ez38, ez39, ez37]
    refine LL.st good_EZ (fun _ : Nat => 0) (fun _ => True) (fun _ => [((.o .z), .ptr (H.key 0) 0), ((.o (.o .z)), .str [3, 2, 1, 0, 0, 0, 0, 0, 0]), ((.i (.i (.i (.i (.o .z))))), .int .i64 0), ((.o (.o (.o (.o (.i .z))))), .int .i64 0)])
      (fun _ => [.row true 16 [rcE 3 2 1 0 0 0]]) ?_ 0 (σ := [0]) (Wk.of rfl (by decide) (by simp only [go_sem, nN]; first | done | rfl | trace_state) (by simp only [go_sem, rcE]; first | done | rfl | trace_state)) trivial
    rintro _ _
    simp only [go_sem, nN, rcE]
    refine CL.of (f28_0 (n := 0) (by decide)) ?_
    rintro _ G' ⟨rfl, hG⟩; rw [hG]; clear hG
    simp only [go_sem]
    refine LL.st good_EZ (fun _ : Nat => 0) (fun _ => True) (fun _ => [((.o (.o .z)), .str [3, 2, 1, 0, 0, 0, 0, 0, 0, 0]), ((.o (.i (.o (.o (.o (.o .z)))))), .int .i64 0), ((.i (.i (.o (.o (.o (.o .z)))))), .int .i64 0)])
      (fun _ => []) ?_ 0 (σ := []) (Wk.of rfl (by decide) (by simp only [go_sem, nN]; first | done | rfl | trace_state) (by simp only [go_sem, rcE]; first | done | rfl | trace_state)) trivial
    rintro _ _
    simp only [go_sem]
    exact ⟨rfl, _, rfl⟩
end Go.Proofs
/- numbers and texts taken of bytes: walked. -/

set_option linter.all false
set_option linter.all false
set_option maxRecDepth 100000
namespace Go.Proofs
open Go Go.Ev
variable {H : Heap}

theorem and_63 {β : Type} {x : Int} (h : x = 0 ∨ x = 1 ∨ x = 2 ∨ x = 3) (ek : EK) (pk : Option (List LK)) (lit : Bool) (f : β) (c : AV → β) : binV Tryz.prog ek pk lit .and (.int .u8 x) (.int .u8 63) f c = c (.int .u8 x) := by
  rcases h with rfl | rfl | rfl | rfl <;> (rw [bin_and]; rfl)
theorem or_0 {β : Type} {x : Int} (h : x = 0 ∨ x = 1 ∨ x = 2 ∨ x = 3) (ek : EK) (pk : Option (List LK)) (lit : Bool) (f : β) (c : AV → β) : binV Tryz.prog ek pk lit .or (.int .i64 0) (.int .i64 x) f c = c (.int .i64 x) := by
  rcases h with rfl | rfl | rfl | rfl <;> (rw [bin_or]; rfl)
theorem shl_0 {β : Type} {x : Int} (h : x = 0 ∨ x = 1 ∨ x = 2 ∨ x = 3) (ek : EK) (pk : Option (List LK)) (lit : Bool) (f : β) (c : AV → β) : binV Tryz.prog ek pk lit .shl (.int .i64 x) (.int .i64 0) f c = c (.int .i64 x) := by
  rcases h with rfl | rfl | rfl | rfl <;> rfl
/-- the first byte is a small number -/
theorem f74_ok {x : Nat} (hx : x = 0 ∨ x = 1 ∨ x = 2 ∨ x = 3) (l : List Nat) (hl : l.length < 100) : FnOk Tryz.prog 74 [.str (x :: l)] H fun r G => r = .tup [.int .i64 x, .str l, .nili] ∧ G = H := by
  refine FnOk.drop (R := fun r => r = .tup [.int .i64 x, .str l, .nili]) ?_ (by rintro v rfl ρ; simp only [AV.ren, AV.rens])
  refine FnOk.of_WW Tryz.func74 rfl C74ok R74ok E0 good_E0 ?_
  simp only [go_sem, C74]
  refine LL.st good_E0 (fun _ : Nat => 0) (fun _ => True) (fun _ => [(.z, .str (x :: l)), ((.o (.i .z)), .int .i64 0), ((.o (.o (.o .z))), .int .i64 0)]) (fun _ => []) ?_ 0 (σ := []) (Wk.of rfl (by decide) (by simp only [go_sem]; first | done | rfl | trace_state) (by simp only [go_sem])) trivial
  rintro _ _
  have h0 : ¬ (0 : Int) ≥ ((l.length + 1 : Nat) : Int) := by omega
  have hw1 : IntKind.i64.wrap (0 + 1) = 1 := rfl
  have hdr : ∀ {β : Type} (f : β) (y : Nat) (c : List Nat → β), dropC f 1 (y :: l) c = c l := fun f y c => rfl
  have h6 : IntKind.i64.wrap (6 * 0) = 0 := rfl
  have q0 : (0 : Int) = 0 ∨ (0 : Int) = 1 ∨ (0 : Int) = 2 ∨ (0 : Int) = 3 := by decide
  have q1 : (1 : Int) = 0 ∨ (1 : Int) = 1 ∨ (1 : Int) = 2 ∨ (1 : Int) = 3 := by decide
  have q2 : (2 : Int) = 0 ∨ (2 : Int) = 1 ∨ (2 : Int) = 2 ∨ (2 : Int) = 3 := by decide
  have q3 : (3 : Int) = 0 ∨ (3 : Int) = 1 ∨ (3 : Int) = 2 ∨ (3 : Int) = 3 := by decide
  rcases hx with rfl | rfl | rfl | rfl
  · simp only [go_sem, h0, h6, hw1, hdr, ↓and_63 q0, ↓or_0 q0, ↓shl_0 q0]
    exact ⟨_, rfl⟩
  · simp only [go_sem, h0, h6, hw1, hdr, ↓and_63 q1, ↓or_0 q1, ↓shl_0 q1]
    exact ⟨_, rfl⟩
  · simp only [go_sem, h0, h6, hw1, hdr, ↓and_63 q2, ↓or_0 q2, ↓shl_0 q2]
    exact ⟨_, rfl⟩
  · simp only [go_sem, h0, h6, hw1, hdr, ↓and_63 q3, ↓or_0 q3, ↓shl_0 q3]
    exact ⟨_, rfl⟩
section
variable {k : K}
theorem f75_ok {t : List Nat} (hk : H.get k = some (.row true 2 [[.str t, .nili]])) (l : List Nat) : FnOk Tryz.prog 75 [.ptr k 0, .str l, .nili] H fun r G => r = .bool true ∧ G = H.set k (.row true 2 [[.str l, .nili]]) := by
  refine FnOk.assume fun hok => ?_
  refine FnOk.of_WW Tryz.func75 rfl C75ok R75ok E0 good_E0 ?_
  have g := fun L => Heap.get_ext_old hok hk L
  have s := fun b (l : List Blk) (α : Type) (c' : Heap → α) => Heap.setC_here hok hk b l c'
  have q := fun b (l : List Blk) => Heap.get_set_here hok hk b l
  have s' := fun b d (l : List Blk) (α : Type) (c' : Heap → α) => Heap.setC_set_here hok hk b d l c'
  simp only [go_sem, C75, g, s, q, s']
  rfl
theorem f32_ok {x : Nat} (hx : x = 0 ∨ x = 1 ∨ x = 2 ∨ x = 3) {l : List Nat} (hl : l.length < 100) (hk : H.get k = some (.row true 2 [[.str (x :: l), .nili]])) : FnOk Tryz.prog 32 [.ptr k 0] H fun r G => r = .int .i64 x ∧ G = H.set k (.row true 2 [[.str l, .nili]]) := by
  refine FnOk.assume fun hok => ?_
  refine FnOk.of_WW Tryz.func32 rfl C32ok R32ok E0 good_E0 ?_
  have g := fun L => Heap.get_ext_old hok hk L
  simp only [go_sem, C32, g]
  refine CL.of (f74_ok hx l hl) ?_
  rintro _ G' ⟨rfl, hG⟩; rw [hG]; clear hG
  simp only [go_sem]
  refine CL.of (f75_ok hk l) ?_
  rintro _ G' ⟨rfl, hG⟩; rw [hG]; clear hG
  refine WW.nil ?_
  simp only [go_sem]
  rfl
theorem f77_ok {l : List Nat} (hl : l.length < 100) {n : Int} (hn : 0 ≤ n) : FnOk Tryz.prog 77 [.str (0 :: l), .int .i64 n] H fun r G => r = .tup [.str [], .str l, .nili] ∧ G = H := by
  refine FnOk.drop (R := fun r => r = .tup [.str [], .str l, .nili]) ?_ (by rintro v rfl ρ; simp only [AV.ren, AV.rens])
  refine FnOk.of_WW Tryz.func77 rfl C77ok R77ok E0 good_E0 ?_
  simp only [go_sem, C77]
  refine CL.of (f74_ok (.inl rfl) l hl) ?_
  rintro _ G' ⟨rfl, hG⟩; rw [hG]; clear hG
  simp only [go_sem]
  refine CL.of (f43_ok none 11) ?_
  rintro _ G' ⟨rfl, hG⟩; rw [hG]; clear hG
  have h1 : ¬ n < 0 := by omega
  have h2 : ¬ (l.length : Int) < 0 := by omega
  have hd0 : ∀ {β : Type} (f : β) (c : List Nat → β), dropC f 0 l c = c l := fun f c => by rw [dropC_eq, if_pos (Nat.zero_le _), List.drop_zero]
  have ht0 : ∀ {β : Type} (f : β) (c : List Nat → β), takeC f 0 l c = c [] := fun f c => by rw [takeC_eq, if_pos (Nat.zero_le _), List.take_zero]
  have h3 : 0 ≤ l.length := Nat.zero_le _
  simp only [go_sem, h1, h2, hd0, ht0, h3]
  exact ⟨_, rfl⟩
/-- a text taken -/
noncomputable def ETx (f : FuncId) (args : List AV) (H : Heap) : RC :=
  match f with
  | 77 => match args with | [.str (0 :: l), .int .i64 n] => if l.length < 100 ∧ 0 ≤ n then .ok (.tup [.str [], .str l, .nili]) H else .fail | _ => .fail
  | _ => .fail
theorem good_ETx : Ev.Good Tryz.prog ETx := by
  intro f args H r G he φ w args' ha hw
  refine (?_ : FnOk Tryz.prog f args H fun v' G' => v' = r ∧ G' = G).one φ w args' ha hw
  unfold ETx at he
  split at he
  · split at he
    · split at he
      · rename_i hc
        cases he; exact f77_ok hc.1 hc.2
      · cases he
    · cases he
  · cases he
theorem etx70 {l : List Nat} (hl : l.length < 100) (H : Heap) : ETx 77 [.str (0 :: l), .int .i64 ((l.length + 1 : Nat) : Int)] H = .ok (.tup [.str [], .str l, .nili]) H := by
  show (if l.length < 100 ∧ 0 ≤ ((l.length + 1 : Nat) : Int) then .ok (.tup [.str [], .str l, .nili]) H else .fail : RC) = _
  rw [if_pos ⟨hl, by omega⟩]
theorem f34_ok {l : List Nat} (hl : l.length < 100) (hk : H.get k = some (.row true 2 [[.str (0 :: l), .nili]])) : FnOk Tryz.prog 34 [.ptr k 0] H fun r G => r = .str [] ∧ G = H.set k (.row true 2 [[.str l, .nili]]) := by
  refine FnOk.assume fun hok => ?_
  refine FnOk.of_WW Tryz.func34 rfl C34ok R34ok ETx good_ETx ?_
  have g := fun L => Heap.get_ext_old hok hk L
  have e := etx70 hl
  simp only [go_sem, C34, g, e]
  refine CL.of (f75_ok hk l) ?_
  rintro _ G' ⟨rfl, hG⟩; rw [hG]; clear hG
  refine WW.nil ?_
  simp only [go_sem]
  rfl
theorem f35_ok {l : List Nat} (hl : l.length < 100) (hk : H.get k = some (.row true 2 [[.str (0 :: l), .nili]])) : FnOk Tryz.prog 35 [.ptr k 0] H fun r G => r = .int .i64 0 ∧ G = H.set k (.row true 2 [[.str l, .nili]]) := by
  refine FnOk.assume fun hok => ?_
  refine FnOk.of_WW Tryz.func35 rfl C35ok R35ok E0 good_E0 ?_
  have q := fun b (l : List Blk) => Heap.get_set_here hok hk b l
  have h2 : ¬ (l.length : Int) < 0 := by omega
  simp only [go_sem, C35]
  refine CL.of (f32_ok (.inl rfl) hl hk) ?_
  rintro _ G' ⟨rfl, hG⟩
  rw [Heap.ext_nil] at hG
  rw [hG]
  clear hG
  refine WW.nil ?_
  simp only [go_sem, q, h2]
  rfl
end
end Go.Proofs
/- that record's bytes are read as it: walked. -/

set_option linter.all false
set_option linter.all false
set_option maxRecDepth 100000
namespace Go.Proofs
open Go Go.Ev
variable {H : Heap}

/-- an empty record -/
def zR : List AV := rcE 0 0 0 0 0 0
/-- one that takes bytes -/
def tk (l : List Nat) : Blk := .row true 2 [[.str l, .nili]]
theorem f9_rc : FnOk Tryz.prog 9 [.str bN] H fun r G => r = .tup [.agg (rcE 3 2 1 0 0 0), .nili] ∧ G = H := by
  refine FnOk.drop (R := fun r => r = .tup [.agg (rcE 3 2 1 0 0 0), .nili]) ?_ (by rintro v rfl ρ; simp only [AV.ren, AV.rens, rcE])
  refine FnOk.of_WW Tryz.func9 rfl C9ok R9ok E0 good_E0 ?_
  simp only [go_sem, C9, bN]
  refine CL.of (f32_ok (x := 3) (l := [2, 1, 0, 0, 0, 0, 0, 0, 0]) (by decide) (by decide) (get_lit rfl)) ?_
  rintro _ G' ⟨rfl, hG⟩
  rw [Heap.set_ext_key _ _ _ _ (by decide)] at hG
  rw [hG]
  clear hG
  simp only [go_sem]
  refine LL.st good_E0 (S := Int × List Nat × List AV) (fun s => (5 - s.1).toNat) (fun s => s = (0, [2, 1, 0, 0, 0, 0, 0, 0, 0], rcE 3 0 0 0 0 0) ∨ s = (1, [1, 0, 0, 0, 0, 0, 0, 0], rcE 3 2 0 0 0 0) ∨ s = (2, [0, 0, 0, 0, 0, 0, 0], rcE 3 2 1 0 0 0) ∨ s = (3, [0, 0, 0, 0, 0, 0], rcE 3 2 1 0 0 0) ∨ s = (4, [0, 0, 0, 0, 0], rcE 3 2 1 0 0 0) ∨ s = (5, [0, 0, 0, 0], rcE 3 2 1 0 0 0))
    (fun s => [(.z, .str bN), ((.i .z), .ptr (H.key 0) 0), ((.o (.o .z)), .nili), ((.i (.o .z)), .ptr (H.key 1) 0), ((.o (.i .z)), .ptr (H.key 2) 0), ((.o (.i (.i .z))), .int .i64 s.1)])
    (fun s => [.row true 16 [zR], tk s.2.1, .row true 16 [s.2.2]]) ?_ (0, [2, 1, 0, 0, 0, 0, 0, 0, 0], rcE 3 0 0 0 0 0) (σ := [0, 1, 2]) (Wk.of rfl (by decide) (by simp only [go_sem, bN]; first | done | rfl | trace_state) (by simp only [go_sem, rcE, zR, tk]; first | done | rfl | trace_state)) (.inl rfl)
  rintro _ (rfl | rfl | rfl | rfl | rfl | rfl)
  · simp only [go_sem, zR, tk, rcE]
    refine CL.of (f32_ok (x := 2) (l := [1, 0, 0, 0, 0, 0, 0, 0]) (by decide) (by decide) (get_lit rfl)) ?_
    rintro _ G' ⟨rfl, hG⟩; rw [Heap.set_ext_key _ _ _ _ (by decide)] at hG; rw [hG]; clear hG
    simp only [go_sem]
    exact ⟨(1, [1, 0, 0, 0, 0, 0, 0, 0], rcE 3 2 0 0 0 0), by decide, .inr (.inl rfl), _, [0, 1, 2], rfl, Wk.of rfl (by decide) (by simp only [go_sem, bN]; first | done | rfl | trace_state) (by simp only [go_sem, rcE, zR, tk]; first | done | rfl | trace_state)⟩
  · simp only [go_sem, zR, tk, rcE]
    refine CL.of (f32_ok (x := 1) (l := [0, 0, 0, 0, 0, 0, 0]) (by decide) (by decide) (get_lit rfl)) ?_
    rintro _ G' ⟨rfl, hG⟩; rw [Heap.set_ext_key _ _ _ _ (by decide)] at hG; rw [hG]; clear hG
    simp only [go_sem]
    exact ⟨(2, [0, 0, 0, 0, 0, 0, 0], rcE 3 2 1 0 0 0), by decide, .inr (.inr (.inl rfl)), _, [0, 1, 2], rfl, Wk.of rfl (by decide) (by simp only [go_sem, bN]; first | done | rfl | trace_state) (by simp only [go_sem, rcE, zR, tk]; first | done | rfl | trace_state)⟩
  · simp only [go_sem, zR, tk, rcE]
    refine CL.of (f32_ok (x := 0) (l := [0, 0, 0, 0, 0, 0]) (by decide) (by decide) (get_lit rfl)) ?_
    rintro _ G' ⟨rfl, hG⟩; rw [Heap.set_ext_key _ _ _ _ (by decide)] at hG; rw [hG]; clear hG
    simp only [go_sem]
    exact ⟨(3, [0, 0, 0, 0, 0, 0], rcE 3 2 1 0 0 0), by decide, .inr (.inr (.inr (.inl rfl))), _, [0, 1, 2], rfl, Wk.of rfl (by decide) (by simp only [go_sem, bN]; first | done | rfl | trace_state) (by simp only [go_sem, rcE, zR, tk]; first | done | rfl | trace_state)⟩
  · simp only [go_sem, zR, tk, rcE]
    refine CL.of (f32_ok (x := 0) (l := [0, 0, 0, 0, 0]) (by decide) (by decide) (get_lit rfl)) ?_
    rintro _ G' ⟨rfl, hG⟩; rw [Heap.set_ext_key _ _ _ _ (by decide)] at hG; rw [hG]; clear hG
    simp only [go_sem]
    exact ⟨(4, [0, 0, 0, 0, 0], rcE 3 2 1 0 0 0), by decide, .inr (.inr (.inr (.inr (.inl rfl)))), _, [0, 1, 2], rfl, Wk.of rfl (by decide) (by simp only [go_sem, bN]; first | done | rfl | trace_state) (by simp only [go_sem, rcE, zR, tk]; first | done | rfl | trace_state)⟩
  · simp only [go_sem, zR, tk, rcE]
    refine CL.of (f32_ok (x := 0) (l := [0, 0, 0, 0]) (by decide) (by decide) (get_lit rfl)) ?_
    rintro _ G' ⟨rfl, hG⟩; rw [Heap.set_ext_key _ _ _ _ (by decide)] at hG; rw [hG]; clear hG
    simp only [go_sem]
    exact ⟨(5, [0, 0, 0, 0], rcE 3 2 1 0 0 0), by decide, .inr (.inr (.inr (.inr (.inr (rfl))))), _, [0, 1, 2], rfl, Wk.of rfl (by decide) (by simp only [go_sem, bN]; first | done | rfl | trace_state) (by simp only [go_sem, rcE, zR, tk]; first | done | rfl | trace_state)⟩
  · simp only [go_sem, zR, tk, rcE]
    refine CL.of (f34_ok (l := [0, 0, 0]) (by decide) (get_lit rfl)) ?_
    rintro _ G' ⟨rfl, hG⟩; rw [Heap.set_ext_key _ _ _ _ (by decide)] at hG; rw [hG]; clear hG
    simp only [go_sem]
    refine CL.of (f34_ok (l := [0, 0]) (by decide) (get_lit rfl)) ?_
    rintro _ G' ⟨rfl, hG⟩; rw [Heap.set_ext_key _ _ _ _ (by decide)] at hG; rw [hG]; clear hG
    simp only [go_sem]
    refine CL.of (f35_ok (l := [0]) (by decide) (get_lit rfl)) ?_
    rintro _ G' ⟨rfl, hG⟩; rw [Heap.set_ext_key _ _ _ _ (by decide)] at hG; rw [hG]; clear hG
    simp only [go_sem]
    refine LL.st good_E0 (fun _ : Nat => 0) (fun _ => True) (fun _ => [(.z, .str bN), ((.i .z), .ptr (H.key 0) 0), ((.o (.o .z)), .nili), ((.i (.o .z)), .ptr (H.key 1) 0), ((.o (.i .z)), .ptr (H.key 2) 0), ((.o (.o (.i (.o (.o .z))))), .int .i64 0), ((.i (.o (.i (.o (.o .z))))), .int .i64 0)])
      (fun _ => [.row true 16 [zR], tk [0], .row true 16 [rcE 3 2 1 0 0 0]]) ?_ 0 (σ := [0, 1, 2]) (Wk.of rfl (by decide) (by simp only [go_sem, bN]; first | done | rfl | trace_state) (by simp only [go_sem, rcE, zR, tk]; first | done | rfl | trace_state)) trivial
    rintro _ _
    simp only [go_sem, zR, tk, rcE]
    refine CL.of (f35_ok (l := []) (by decide) (get_lit rfl)) ?_
    rintro _ G' ⟨rfl, hG⟩; rw [Heap.set_ext_key _ _ _ _ (by decide)] at hG; rw [hG]; clear hG
    simp only [go_sem]
    refine LL.st good_E0 (fun _ : Nat => 0) (fun _ => True) (fun _ => [(.z, .str bN), ((.i .z), .ptr (H.key 0) 0), ((.o (.o .z)), .nili), ((.i (.o .z)), .ptr (H.key 1) 0), ((.o (.i .z)), .ptr (H.key 2) 0), ((.o (.o (.o (.o (.i .z))))), .int .i64 0), ((.i (.o (.o (.o (.i .z))))), .int .i64 0)])
      (fun _ => [.row true 16 [zR], tk [], .row true 16 [rcE 3 2 1 0 0 0]]) ?_ 0 (σ := [0, 1, 2]) (Wk.of rfl (by decide) (by simp only [go_sem, bN]; first | done | rfl | trace_state) (by simp only [go_sem, rcE, zR, tk]; first | done | rfl | trace_state)) trivial
    rintro _ _
    simp only [go_sem, zR, tk, rcE]
    refine CL.of f8_rc ?_
    rintro _ G' ⟨rfl, hG⟩
    rw [hG]
    clear hG
    simp only [go_sem, bN]
    exact ⟨_, rfl⟩
end Go.Proofs
