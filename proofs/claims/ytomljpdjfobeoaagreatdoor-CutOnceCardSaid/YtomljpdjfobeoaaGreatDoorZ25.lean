/- the document's puts, gets: asked: walked. -/
import Derived.Test.YtomljpdjfobeoaaGreatDoorZ24
set_option linter.all false
set_option linter.all false
set_option maxRecDepth 100000
namespace Go.Proofs
open Go Go.Ev
variable {H : Heap}

theorem f92_put {k v : List Nat} (hk : isKey k) (hv : (v.length : Int) ≤ 12) : FnOk Tryz.prog 92 [.agg [.int .i64 2, .str k, .str [], .str v, .int .i64 0, .nils]] H fun r G => r = .bool true ∧ G = H := by
  refine FnOk.drop (R := fun r => r = .bool true) ?_ (by rintro v rfl ρ; rw [AV.ren])
  refine FnOk.of_WW Tryz.func92 rfl C92ok R92ok E0 good_E0 ?_
  have z1 := eq_false hk.1
  have z2 := eq_false (show ¬ (40 : Int) < (v.length : Int) by omega)
  simp only [go_sem, C92, z1, z2]
  refine CL.bool (f127_ok k) (fun g => ?_) (fun g => absurd hk g)
  simp only [go_sem, z1, z2]
  exact ⟨_, rfl⟩
theorem f92_get {k : List Nat} (hk : isKey k) : FnOk Tryz.prog 92 [.agg [.int .i64 1, .str k, .str [], .str [], .int .i64 0, .nils]] H fun r G => r = .bool true ∧ G = H := by
  refine FnOk.drop (R := fun r => r = .bool true) ?_ (by rintro v rfl ρ; rw [AV.ren])
  refine FnOk.of_WW Tryz.func92 rfl C92ok R92ok E0 good_E0 ?_
  have z1 := eq_false hk.1
  simp only [go_sem, C92, z1]
  refine CL.bool (f127_ok k) (fun g => ?_) (fun g => absurd hk g)
  simp only [go_sem, z1]
  exact ⟨_, rfl⟩
theorem f50_put (k v : List Nat) : FnOk Tryz.prog 50 [.agg [.int .i64 2, .str k, .str [], .str v, .int .i64 0, .nils]] H fun r G => r = .bool true ∧ G = H := by
  refine FnOk.drop (R := fun r => r = .bool true) ?_ (by rintro v rfl ρ; rw [AV.ren])
  refine FnOk.of_WW Tryz.func50 rfl C50ok R50ok E0 good_E0 ?_
  simp only [go_sem, C50]
  exact ⟨_, rfl⟩
theorem f50_get (k : List Nat) : FnOk Tryz.prog 50 [.agg [.int .i64 1, .str k, .str [], .str [], .int .i64 0, .nils]] H fun r G => r = .bool false ∧ G = H := by
  refine FnOk.drop (R := fun r => r = .bool false) ?_ (by rintro v rfl ρ; rw [AV.ren])
  refine FnOk.of_WW Tryz.func50 rfl C50ok R50ok E0 good_E0 ?_
  simp only [go_sem, C50]
  exact ⟨_, rfl⟩
theorem f49_put {s : Sh} (h : s.ok H) (hel : s.evs.length < 9000) (hcl : s.cells.length < 9000) {k v : List Nat} (hk : isKey k) (hv : (v.length : Int) ≤ 12) (hI : isHist s.evs s.cells) (hm : (getL s.cells k).1.ver < 1000000000000) :
    FnOk Tryz.prog 49 [.agg s.enc, .agg [.int .i64 2, .str k, .str [], .str v, .int .i64 0, .nils]] H fun r G => r = .tup [.agg (addS s (nextC s.cells k v false) (nextE s.cells k v false) (H.key 0) (H.key 1)).enc, .agg [.int .i64 0, .str [], .int .i64 ((getL s.cells k).1.ver + 1), .nils]] ∧ G = H.ext (addB s (nextC s.cells k v false) (nextE s.cells k v false)) := by
  refine FnOk.dropW ?_
  refine FnOk.of_WW Tryz.func49 rfl C49ok R49ok E0 good_E0 ?_
  have cren := h.c.ren
  have eren := h.e.ren
  have dren := h.d.ren
  simp only [go_sem, C49, Sh.enc]
  refine CL.of (f92_put hk hv) ?_
  rintro _ _ ⟨rfl, rfl⟩
  simp only [go_sem]
  refine CL.of (f85_ok (h.c.ext _) h.cl k) ?_
  rintro _ _ ⟨rfl, rfl⟩
  simp only [go_sem, Cell.enc]
  refine CL.of (f94_put (h.ext _) hel hcl hk hv hI hm) ?_
  rintro _ _ ⟨rfl, rfl⟩
  simp only [go_sem, Sh.enc, addS, addB, Heap.key_ext]
  refine ⟨_, [5, 6], by simp only [addS, nextC, nextE, Sh.enc, outV_ren', dren, go_sem], rfl, rfl, by decide, by simp only [addB, nextC, nextE, go_sem, ↓outB_ren', Cell.map_rens, Evn.map_rens, implies_true]⟩
/-- what a get tells -/
def getA (c : Cell) : List AV := if 0 < c.ver ∧ c.del = false then [.int .i64 0, .str c.value, .int .i64 c.ver, .nils] else [.int .i64 14, .str [], .int .i64 c.ver, .nils]
theorem getA_rens (ρ : K → K) (c : Cell) : AV.rens ρ (getA c) = getA c := by unfold getA; split <;> rfl
theorem f49_get {s : Sh} (h : s.ok H) {k : List Nat} (hk : isKey k) :
    FnOk Tryz.prog 49 [.agg s.enc, .agg [.int .i64 1, .str k, .str [], .str [], .int .i64 0, .nils]] H fun r G => r = .tup [.agg s.enc, .agg (getA (getL s.cells k).1)] ∧ G = H := by
  refine FnOk.dropOld (R := fun r => r = .tup [.agg s.enc, .agg (getA (getL s.cells k).1)]) ?_ ?_
  · refine FnOk.of_WW Tryz.func49 rfl C49ok R49ok E0 good_E0 ?_
    simp only [go_sem, C49, Sh.enc]
    refine CL.of (f92_get hk) ?_
    rintro _ _ ⟨rfl, rfl⟩
    simp only [go_sem]
    refine CL.of (f85_ok (h.c.ext _) h.cl k) ?_
    rintro _ _ ⟨rfl, rfl⟩
    simp only [go_sem, Cell.enc]
    refine CL.bool (f93_ok (getL s.cells k).1) (fun g => ?_) (fun g => ?_)
    · simp only [go_sem, Cell.enc]
      exact ⟨by rw [getA, if_pos g], _, rfl⟩
    · simp only [go_sem, Cell.enc]
      exact ⟨by rw [getA, if_neg g], _, rfl⟩
  · rintro _ rfl top σ
    simp only [AV.ren, AV.rens, h.ren top σ, getA_rens]
theorem f17_stood {s : Sh} (h : s.ok H) (hdl : s.done.length < 10000) (ses id : Int) (hn : ¬ (stands s.done ses id).2 = 0) (k : Int) (a b c : List Nat) (n : Int) :
    FnOk Tryz.prog 17 [.agg s.enc, .int .i64 ses, .int .i64 id, .agg [.int .i64 k, .str a, .str b, .str c, .int .i64 n, .nils]] H fun r G => r = .tup [.agg s.enc, .agg (stands s.done ses id).1.enc, .int .i64 (stands s.done ses id).2] ∧ G = H := by
  have hst := stands_an h.dok ses id
  refine FnOk.dropOld (R := fun r => r = .tup [.agg s.enc, .agg (stands s.done ses id).1.enc, .int .i64 (stands s.done ses id).2]) ?_ ?_
  · refine FnOk.of_WW Tryz.func17 rfl C17ok R17ok E0 good_E0 ?_
    have z1 := eq_false hn
    simp only [go_sem, C17, Sh.enc]
    refine CL.of (f48_ok (h.d.ext _) (h.dok.ext _) (by omega) ses id) ?_
    rintro _ _ ⟨rfl, rfl⟩
    simp only [go_sem, An.enc, z1]
    exact ⟨_, rfl⟩
  · rintro _ rfl top σ
    simp only [An.enc, AV.ren, AV.rens, h.ren top σ, hst.ren top σ]
/-- the answer of a put -/
def putA (n : Int) : An := ⟨0, [], n, [], .nils⟩
theorem putA_ok (H : Heap) (n : Int) : (putA n).ok H := ⟨.inl ⟨rfl, rfl⟩, (by decide : (0 : Nat) ≤ 9223372036854775807)⟩
/-- a shard with a request's put done -/
noncomputable def askS (s : Sh) (k v : List Nat) (ses id : Int) (k0 k1 k2 : K) : Sh := ⟨s.id, s.ep, s.fr, s.to, s.frz, (addS s (nextC s.cells k v false) (nextE s.cells k v false) k0 k1).cells, (addS s (nextC s.cells k v false) (nextE s.cells k v false) k0 k1).evs, withD s.done ⟨ses, id, putA ((getL s.cells k).1.ver + 1)⟩, (addS s (nextC s.cells k v false) (nextE s.cells k v false) k0 k1).cv, (addS s (nextC s.cells k v false) (nextE s.cells k v false) k0 k1).ev, outV k2 6 (withD s.done ⟨ses, id, putA ((getL s.cells k).1.ver + 1)⟩).length⟩
noncomputable def askB (s : Sh) (k v : List Nat) (ses id : Int) : List Blk := addB s (nextC s.cells k v false) (nextE s.cells k v false) ++ [outB 6 ((withD s.done ⟨ses, id, putA ((getL s.cells k).1.ver + 1)⟩).map Dn.enc)]
theorem f17_put {s : Sh} (h : s.ok H) (hdl : s.done.length < 9000) (hel : s.evs.length < 9000) (hcl : s.cells.length < 9000) {k v : List Nat} (hk : isKey k) (hv : (v.length : Int) ≤ 12) (hI : isHist s.evs s.cells) (hm : (getL s.cells k).1.ver < 1000000000000) (hup : upD s.done) {ses id : Int} (hn : (stands s.done ses id).2 = 0) (hkp : ¬ keepsD s.done ⟨ses, id, putA ((getL s.cells k).1.ver + 1)⟩) :
    FnOk Tryz.prog 17 [.agg s.enc, .int .i64 ses, .int .i64 id, .agg [.int .i64 2, .str k, .str [], .str v, .int .i64 0, .nils]] H fun r G => r = .tup [.agg (askS s k v ses id (H.key 0) (H.key 1) (H.key 2)).enc, .agg [.int .i64 0, .str [], .int .i64 ((getL s.cells k).1.ver + 1), .nils], .int .i64 0] ∧ G = H.ext (askB s k v ses id) := by
  refine FnOk.dropW ?_
  refine FnOk.of_WW Tryz.func17 rfl C17ok R17ok E0 good_E0 ?_
  have hdok := withD_ok h.dok (putA_ok H ((getL s.cells k).1.ver + 1)) (d := ⟨ses, id, putA ((getL s.cells k).1.ver + 1)⟩)
  have drn := hdok.rens
  simp only [go_sem, C17, Sh.enc]
  refine CL.of (f48_ok (h.d.ext _) (h.dok.ext _) (by omega) ses id) ?_
  rintro _ _ ⟨rfl, rfl⟩
  simp only [go_sem, An.enc, hn]
  refine CL.of (f49_put (h.ext _) hel hcl hk hv hI hm) ?_
  rintro _ _ ⟨rfl, rfl⟩
  simp only [go_sem, Sh.enc, addS, addB, Heap.key_ext]
  refine CL.of (f50_put k v) ?_
  rintro _ _ ⟨rfl, rfl⟩
  simp only [go_sem, Sh.enc]
  refine CL.of (f51_with (d := ⟨ses, id, putA ((getL s.cells k).1.ver + 1)⟩) (h.d.ext _) (h.dok.ext _) (putA_ok _ _) hup (by omega) hkp) ?_
  rintro _ _ ⟨rfl, rfl⟩
  simp only [go_sem, Sh.enc]
  refine ⟨_, [5, 6, 9], by simp only [askS, addS, nextC, nextE, Sh.enc, outV_ren', go_sem], rfl, rfl, by decide, by simp only [askB, addB, nextC, nextE, go_sem, ↓outB_ren', Cell.map_rens, Evn.map_rens, drn, implies_true]⟩
theorem f17_get {s : Sh} (h : s.ok H) (hdl : s.done.length < 9000) {k : List Nat} (hk : isKey k) {ses id : Int} (hn : (stands s.done ses id).2 = 0) :
    FnOk Tryz.prog 17 [.agg s.enc, .int .i64 ses, .int .i64 id, .agg [.int .i64 1, .str k, .str [], .str [], .int .i64 0, .nils]] H fun r G => r = .tup [.agg s.enc, .agg (getA (getL s.cells k).1), .int .i64 0] ∧ G = H := by
  refine FnOk.dropOld (R := fun r => r = .tup [.agg s.enc, .agg (getA (getL s.cells k).1), .int .i64 0]) ?_ ?_
  · refine FnOk.of_WW Tryz.func17 rfl C17ok R17ok E0 good_E0 ?_
    obtain ⟨x0, x1, x2, x3, hx⟩ : ∃ x0 x1 x2 x3, getA (getL s.cells k).1 = [x0, x1, x2, x3] := by unfold getA; split <;> exact ⟨_, _, _, _, rfl⟩
    simp only [go_sem, C17, Sh.enc]
    refine CL.of (f48_ok (h.d.ext _) (h.dok.ext _) (by omega) ses id) ?_
    rintro _ _ ⟨rfl, rfl⟩
    simp only [go_sem, An.enc, hn]
    refine CL.of (f49_get (h.ext _) hk) ?_
    rintro _ _ ⟨rfl, rfl⟩
    rw [hx]
    simp only [go_sem, Sh.enc]
    refine CL.of (f50_get k) ?_
    rintro _ _ ⟨rfl, rfl⟩
    simp only [go_sem, Sh.enc]
    exact ⟨_, rfl⟩
  · rintro _ rfl top σ
    simp only [AV.ren, AV.rens, h.ren top σ, getA_rens]
end Go.Proofs
/- CutOnce: the plain law. -/


set_option linter.all false
set_option linter.all false
set_option maxRecDepth 100000
namespace Go.Proofs
open Go Go.Ev
variable {H : Heap}

theorem lt_mx : ltS [109] [120] := (ltS_cons ..).2 (.inl (by decide))
theorem isSh_same {a b : Sh} (h : sameSh a b) (hb : isSh b) : isSh a := by
  obtain ⟨h1, h2, h3, h4, h5, h6, h7, h8⟩ := h
  unfold isSh at hb ⊢
  rw [h1, h2, h3, h4, h6, h7, h8]
  exact hb
def cK (n : Int) : Cell := ⟨[99], [118], n, false, 0⟩
/-- the shard behind so many requests -/
structure AtI (i : Nat) (s : Sh) : Prop where
  hd : s.id = 1 ∧ s.ep = 1 ∧ s.fr = [] ∧ s.to = [] ∧ s.frz = false
  hist : isHist s.evs s.cells
  len : s.evs.length = i
  keys : ∀ e ∈ s.evs, e.key = [99]
  cells : s.cells = if i = 0 then [] else [cK i]
  done : s.done = if i = 0 then [] else [⟨1, i, putA i⟩]
theorem AtI.get {i : Nat} {s : Sh} (h : AtI i s) : (getL s.cells [99]).1.ver = i ∧ (getL s.cells [99]).1.floor = 0 := by
  rw [h.cells]
  by_cases hi : i = 0
  · subst hi; exact ⟨rfl, rfl⟩
  · rw [if_neg hi]; exact ⟨rfl, rfl⟩
theorem AtI.nextC {i : Nat} {s : Sh} (h : AtI i s) : nextC s.cells [99] [118] false = cK ((i : Int) + 1) := by
  unfold Go.Proofs.nextC cK; rw [h.get.1, h.get.2]
theorem AtI.withL {i : Nat} {s : Sh} (h : AtI i s) (n : Int) : withL s.cells (cK n) = [cK n] := by
  rw [h.cells]
  by_cases hi : i = 0
  · rw [if_pos hi]; rfl
  · rw [if_neg hi, Go.Proofs.withL, if_neg (show ¬ ltS (cK i).key (cK n).key from ltS_irrefl _), if_pos (show (cK i).key = (cK n).key from rfl)]
theorem AtI.stands {i : Nat} {s : Sh} (h : AtI i s) : (stands s.done 1 ((i : Int) + 1)).2 = 0 := by
  rw [h.done]
  by_cases hi : i = 0
  · rw [if_pos hi]; rfl
  · rw [if_neg hi]
    show (if (i : Int) < (i : Int) + 1 then ((zeroA, 0) : An × Int) else _).2 = 0
    rw [if_pos (by omega)]
theorem AtI.keeps {i : Nat} {s : Sh} (h : AtI i s) (a : An) : ¬ keepsD s.done ⟨1, (i : Int) + 1, a⟩ := by
  rintro ⟨x, h1, h2⟩
  rw [h.done] at h1
  by_cases hi : i = 0
  · rw [if_pos hi] at h1; cases h1
  · rw [if_neg hi] at h1
    cases h1
    have h2 : (i : Int) + 1 < (i : Int) := h2
    omega
theorem AtI.up {i : Nat} {s : Sh} (h : AtI i s) : upD s.done := by
  rw [h.done]
  split
  · exact .nil
  · exact List.pairwise_singleton ..
theorem AtI.dlen {i : Nat} {s : Sh} (h : AtI i s) : s.done.length ≤ 1 := by rw [h.done]; split <;> exact Nat.le_of_ble_eq_true rfl
theorem AtI.clen {i : Nat} {s : Sh} (h : AtI i s) : s.cells.length ≤ 1 := by rw [h.cells]; split <;> exact Nat.le_of_ble_eq_true rfl
theorem key_c : isKey [99] := ⟨by simp, by show (1 : Int) ≤ 8; decide⟩
theorem key_x : isKey [120] := ⟨by simp, by show (1 : Int) ≤ 8; decide⟩
theorem askS_hist {s : Sh} (hI : isHist s.evs s.cells) {k v : List Nat} (hk : isKey k) (hv : (v.length : Int) ≤ 12) (hm : (getL s.cells k).1.ver < 1000000000000) (ses id : Int) (k0 k1 k2 : K) : isHist (askS s k v ses id k0 k1 k2).evs (askS s k v ses id k0 k1 k2).cells := by
  have := putS_hist hI hk hv hm
  show isHist _ (keepC _ (refW s.cells (Go.Proofs.nextC s.cells k v false)))
  rw [refW_eq hI.1]
  exact this
theorem withD_one (s : Int) {i j : Int} (hi : i ≤ j) (a b : An) : withD [⟨s, i, a⟩] ⟨s, j, b⟩ = [⟨s, j, b⟩] := by
  unfold withD putGD
  rw [if_neg (Int.lt_irrefl s), if_pos rfl, lateD, if_pos hi]
theorem withD_late (s : Int) {i j : Int} (hi : j < i) (a b : An) : withD [⟨s, i, a⟩] ⟨s, j, b⟩ = [⟨s, i, a⟩] := by
  unfold withD putGD
  rw [if_neg (Int.lt_irrefl s), if_pos rfl, lateD, if_neg (Int.not_le.2 hi)]
theorem AtI.next {i : Nat} {s : Sh} (h : AtI i s) (hi : i < 24) (k0 k1 k2 : K) : AtI (i + 1) (askS s [99] [118] 1 ((i : Int) + 1) k0 k1 k2) where
  hd := h.hd
  hist := askS_hist h.hist key_c (by decide) (by rw [h.get.1]; omega) ..
  len := by
    show ((s.evs ++ [nextE s.cells [99] [118] false]).drop ((s.evs ++ [nextE s.cells [99] [118] false]).length - 24)).length = _
    rw [List.length_drop, List.length_append, h.len]
    show i + 1 - (i + 1 - 24) = i + 1
    omega
  keys := by
    intro e he
    have he : e ∈ (s.evs ++ [nextE s.cells [99] [118] false]).drop _ := he
    rcases List.mem_append.1 (List.mem_of_mem_drop he) with he | he
    · exact h.keys e he
    · rw [List.mem_singleton.1 he]; rfl
  cells := by
    show keepC ((s.evs ++ [nextE s.cells [99] [118] false]).take ((s.evs ++ [nextE s.cells [99] [118] false]).length - 24)) (refW s.cells (Go.Proofs.nextC s.cells [99] [118] false)) = _
    rw [show (s.evs ++ [nextE s.cells [99] [118] false]).length - 24 = 0 by rw [List.length_append, h.len]; show i + 1 - 24 = 0; omega, List.take_zero, keepC_nil, refW_eq h.hist.1, h.nextC, h.withL]
    rfl
  done := by
    show withD s.done ⟨1, (i : Int) + 1, putA ((getL s.cells [99]).1.ver + 1)⟩ = _
    rw [h.get.1, h.done]
    by_cases hz : i = 0
    · subst hz; rfl
    · rw [if_neg hz, withD_one 1 (show (i : Int) ≤ (i : Int) + 1 by omega)]
      rfl
theorem putA_is {n : Int} (h1 : 0 ≤ n) (h2 : n < 281474976710656) : isAns (putA n) := ⟨⟨by show (0 : Int) ≤ 0; decide, by show (0 : Int) < _; decide, h1, h2, by show (0 : Int) ≤ 255; decide⟩, by show (0 : Int) ≤ 16; decide, fun ⟨r, hr, _⟩ => absurd hr List.not_mem_nil⟩
theorem done_one {k : Nat} (h1 : 1 ≤ k) (h2 : k ≤ 100) {n : Int} (h3 : 0 ≤ n) (h4 : n ≤ 100) : isDone [⟨1, k, putA n⟩] := done_iff.2 ⟨fun c hc => by
  rw [List.mem_singleton.1 hc]
  exact ⟨⟨by show (0 : Int) ≤ 1; decide, by show (1 : Int) < 3; decide, by show (1 : Int) ≤ (k : Int); omega, by show (k : Int) ≤ 1000000000000; omega⟩, putA_is h3 (by omega)⟩, List.pairwise_singleton ..⟩
theorem AtI.sh {k : Nat} {s : Sh} (h : AtI k s) (h1 : 1 ≤ k) (h2 : k ≤ 20) : isSh s := by
  obtain ⟨e1, e2, e3, e4, e5⟩ := h.hd
  refine ⟨⟨by omega, by omega, by omega, by omega⟩, by rw [e3, e4]; exact k_span, fun c hc => ?_, by rw [h.len]; omega, h.hist, ?_⟩
  · rw [h.cells, if_neg (by omega)] at hc
    rw [List.mem_singleton.1 hc, e3, e4]
    exact k_has 99
  · rw [h.done, if_neg (by omega)]
    exact done_one h1 (by omega) (by omega) (by omega)
theorem AtI.inS {k : Nat} {s : Sh} (h : AtI k s) : inSplit s [109] := by
  obtain ⟨e1, e2, e3, e4, e5⟩ := h.hd
  exact ⟨by rw [e3, e4]; exact k_has 109, by rw [e3]; rfl⟩
theorem AtI.okS {k : Nat} {s : Sh} (h : AtI k s) (h1 : 1 ≤ k) (h2 : k ≤ 20) : okSplit s 2 3 := ⟨⟨h.sh h1 h2, by rw [h.hd.2.2.2.2]; decide⟩, by decide, by decide, by decide⟩
theorem no_hi {t : List Nat} : ¬ has [109] t [99] := fun h => h.2.2.1 lt_cm
theorem hi_cells {n : Int} : withinL [109] [] [cK n] = [] := by
  unfold withinL
  rw [List.filter_cons_of_neg (by rw [decide_eq_false (show ¬ has [109] [] (cK n).key from no_hi)]; decide)]
  rfl
theorem hi_evs {l : List Evn} (h : ∀ e ∈ l, e.key = [99]) : evW [109] [] l = [] := by
  unfold evW
  refine List.filter_eq_nil_iff.2 fun e he => ?_
  rw [h e he, decide_eq_false no_hi]
  decide
/-- both parts of the shard -/
structure LoI (k : Nat) (a : Sh) : Prop where
  sh : isSh a
  to : a.to = [109]
  frz : a.frz = false
  done : a.done = [⟨1, k, putA k⟩]
  cells : a.cells.length ≤ 1
  evs : a.evs.length ≤ 24
structure HiI (k : Nat) (b : Sh) : Prop where
  hd : b.id = 3 ∧ b.ep = 1 ∧ b.fr = [109] ∧ b.to = [] ∧ b.frz = false
  done : b.done = [⟨1, k, putA k⟩]
  cells : b.cells = []
  evs : b.evs = []
theorem AtI.lo {k : Nat} {s a : Sh} (h : AtI k s) (h1 : 1 ≤ k) (h2 : k ≤ 20) (ha : sameSh a (saidPart s 2 s.fr [109])) : LoI k a := by
  have hs := h.sh h1 h2
  have hb := h.inS
  obtain ⟨a1, a2, a3, a4, a5, a6, a7, a8⟩ := id ha
  refine ⟨isSh_same ha (part_sh hs (id := 2) hb.lo ⟨by decide, by decide⟩ .z .z .z), a4, a5, by rw [a8]; show s.done = _; rw [h.done, if_neg (by omega)], ?_, ?_⟩
  · rw [a6]; exact Nat.le_trans (List.length_filter_le ..) h.clen
  · rw [a7]; refine Nat.le_trans (List.length_filter_le ..) ?_; rw [h.len]; omega
theorem AtI.hi {k : Nat} {s b : Sh} (h : AtI k s) (h1 : 1 ≤ k) (h2 : k ≤ 20) (hb : sameSh b (saidPart s 3 [109] s.to)) : HiI k b := by
  obtain ⟨e1, e2, e3, e4, e5⟩ := h.hd
  obtain ⟨a1, a2, a3, a4, a5, a6, a7, a8⟩ := id hb
  refine ⟨⟨a1, a2, a3, a4.trans e4, a5⟩, by rw [a8]; show s.done = _; rw [h.done, if_neg (by omega)], ?_, ?_⟩
  · rw [a6]; show withinL [109] s.to s.cells = []; rw [e4, h.cells, if_neg (by omega), hi_cells]
  · rw [a7]; show evW [109] s.to s.evs = []; rw [e4, hi_evs h.keys]
theorem one_up (d : Dn) : upD [d] := List.pairwise_singleton ..
theorem stands_next (k : Nat) (n : Int) : (stands [⟨1, k, putA n⟩] 1 ((k : Int) + 1)).2 = 0 := by
  show (if (k : Int) < (k : Int) + 1 then ((zeroA, 0) : An × Int) else _).2 = 0
  rw [if_pos (by omega)]
theorem stands_same (k n : Int) : stands [⟨1, k, putA n⟩] 1 k = (putA n, 1) := by
  show (if k < k then ((zeroA, 0) : An × Int) else if k = k then _ else _) = _
  rw [if_neg (by omega), if_pos rfl]
theorem stands_old (k : Nat) (n : Int) : stands [⟨1, (k : Int) + 1, putA n⟩] 1 k = (zeroA, 2) := by
  show (if (k : Int) + 1 < k then ((zeroA, 0) : An × Int) else if (k : Int) = (k : Int) + 1 then _ else _) = _
  rw [if_neg (by omega), if_neg (by omega)]
theorem keeps_next (k : Nat) (n : Int) (a : An) : ¬ keepsD [⟨1, k, putA n⟩] ⟨1, (k : Int) + 1, a⟩ := by
  rintro ⟨x, h1, h2⟩
  cases h1
  have h2 : (k : Int) + 1 < (k : Int) := h2
  omega
theorem hist_nil : isHist [] [] := ⟨fun j h => absurd h (Nat.not_lt_zero _), fun e he => absurd he List.not_mem_nil, fun c hc => absurd hc List.not_mem_nil⟩
theorem HiI.ask {k : Nat} {b : Sh} (h : HiI k b) (h2 : k ≤ 20) (k0 k1 k2 : K) : isSh (askS b [120] [118] 1 ((k : Int) + 1) k0 k1 k2) ∧ (askS b [120] [118] 1 ((k : Int) + 1) k0 k1 k2).done = [⟨1, (k : Int) + 1, putA 1⟩] ∧ (askS b [120] [118] 1 ((k : Int) + 1) k0 k1 k2).cells.length = 1 ∧ (askS b [120] [118] 1 ((k : Int) + 1) k0 k1 k2).evs.length = 1 := by
  obtain ⟨e1, e2, e3, e4, e5⟩ := h.hd
  have hc : (askS b [120] [118] 1 ((k : Int) + 1) k0 k1 k2).cells = [⟨[120], [118], 1, false, 0⟩] := by
    show keepC ((b.evs ++ [nextE b.cells [120] [118] false]).take ((b.evs ++ [nextE b.cells [120] [118] false]).length - 24)) (refW b.cells (nextC b.cells [120] [118] false)) = _
    rw [h.evs, h.cells, refW_eq hist_nil.1]
    rfl
  have he : (askS b [120] [118] 1 ((k : Int) + 1) k0 k1 k2).evs = [⟨[120], 1, [118], false⟩] := by
    show (b.evs ++ [nextE b.cells [120] [118] false]).drop ((b.evs ++ [nextE b.cells [120] [118] false]).length - 24) = _
    rw [h.evs, h.cells]
    rfl
  have hd : (askS b [120] [118] 1 ((k : Int) + 1) k0 k1 k2).done = [⟨1, (k : Int) + 1, putA 1⟩] := by
    show withD b.done ⟨1, (k : Int) + 1, putA ((getL b.cells [120]).1.ver + 1)⟩ = _
    rw [h.done, h.cells, withD_one 1 (show (k : Int) ≤ (k : Int) + 1 by omega)]
    rfl
  have hh := askS_hist (s := b) (by rw [h.evs, h.cells]; exact hist_nil) key_x (v := [118]) (by decide) (by rw [h.cells]; decide) 1 ((k : Int) + 1) k0 k1 k2
  refine ⟨⟨⟨by show 1 ≤ b.id; omega, by show b.id ≤ _; omega, by show 1 ≤ b.ep; omega, by show b.ep ≤ _; omega⟩, ?_, fun c hcm => ?_, by rw [he]; decide, hh, ?_⟩, hd, by rw [hc]; rfl, by rw [he]; rfl⟩
  · show isSpan b.fr b.to
    rw [e3, e4]; exact ⟨by decide, by decide, .inl rfl⟩
  · rw [hc] at hcm
    rw [List.mem_singleton.1 hcm]
    show has b.fr b.to [120]
    rw [e3, e4]
    exact ⟨⟨by decide, by decide, .inl rfl⟩, key_x, ltS_asymm lt_mx, .inl rfl⟩
  · rw [hd]
    exact done_one (k := k + 1) (by omega) (by omega) (by decide) (by decide)
theorem joined_done (k : Nat) (n : Int) : joinP [⟨1, k, putA n⟩] [⟨1, (k : Int) + 1, putA 1⟩] = [⟨1, (k : Int) + 1, putA 1⟩] := by
  show withD [⟨1, (k : Int) + 1, putA 1⟩] ⟨1, k, putA n⟩ = _
  exact withD_late 1 (show (k : Int) < (k : Int) + 1 by omega) _ _
theorem AtI.first {s : Sh} (h : s = ⟨1, 1, [], [], false, [], [], [], .nils, .nils, .nils⟩) : AtI 0 s := by
  subst h
  exact ⟨⟨rfl, rfl, rfl, rfl, rfl⟩, hist_nil, rfl, fun e he => absurd he List.not_mem_nil, rfl, rfl⟩
end Go.Proofs
/- CutTells: walked. -/


set_option linter.all false
set_option linter.all false
set_option maxRecDepth 100000
namespace Go.Proofs
open Go Go.Ev
variable {H : Heap}

theorem sameSh.symm {a b : Sh} (h : sameSh a b) : sameSh b a := ⟨h.1.symm, h.2.1.symm, h.2.2.1.symm, h.2.2.2.1.symm, h.2.2.2.2.1.symm, h.2.2.2.2.2.1.symm, h.2.2.2.2.2.2.1.symm, h.2.2.2.2.2.2.2.symm⟩
theorem sameSh.trans {a b c : Sh} (h : sameSh a b) (g : sameSh b c) : sameSh a c := ⟨h.1.trans g.1, h.2.1.trans g.2.1, h.2.2.1.trans g.2.2.1, h.2.2.2.1.trans g.2.2.2.1, h.2.2.2.2.1.trans g.2.2.2.2.1, h.2.2.2.2.2.1.trans g.2.2.2.2.2.1, h.2.2.2.2.2.2.1.trans g.2.2.2.2.2.2.1, h.2.2.2.2.2.2.2.trans g.2.2.2.2.2.2.2⟩
theorem sameSh.refl (a : Sh) : sameSh a a := ⟨rfl, rfl, rfl, rfl, rfl, rfl, rfl, rfl⟩
end Go.Proofs
/- CutOnce: walked. -/


set_option linter.all false
set_option linter.all false
set_option maxRecDepth 100000
namespace Go.Proofs
open Go Go.Ev
variable {H : Heap}

/-- a state of the loop: the shard's lists lie at these places -/
def St4 (H : Heap) (k : Nat) (q : Nat × Sh) : Prop := q.1 ≤ k ∧ AtI q.1 q.2 ∧ q.2.cv = outV (H.key 1) 5 q.2.cells.length ∧ q.2.ev = outV (H.key 2) 4 q.2.evs.length ∧ q.2.dv = outV (H.key 3) 6 q.2.done.length
def bl4 (q : Nat × Sh) : List Blk := [.row true 8 [q.2.enc], outB 5 (q.2.cells.map Cell.enc), outB 4 (q.2.evs.map Evn.enc), outB 6 (q.2.done.map Dn.enc)]
theorem AtI.dok {i : Nat} {s : Sh} (h : AtI i s) (H : Heap) : allOk H s.done := by
  rw [h.done]
  split
  · exact fun d hd => absurd hd List.not_mem_nil
  · exact fun d hd => by rw [List.mem_singleton.1 hd]; exact putA_ok H _
theorem St4.ok {k : Nat} (hk : k ≤ 20) {q : Nat × Sh} (h : St4 H k q) {L : List Blk} (h1 : L[1]? = some (outB 5 (q.2.cells.map Cell.enc))) (h2 : L[2]? = some (outB 4 (q.2.evs.map Evn.enc))) (h3 : L[3]? = some (outB 6 (q.2.done.map Dn.enc))) : q.2.ok (H.ext L) where
  c := by rw [h.2.2.1]; exact arr_outV h1 (List.length_map ..)
  e := by rw [h.2.2.2.1]; exact arr_outV h2 (List.length_map ..)
  d := by rw [h.2.2.2.2]; exact arr_outV h3 (List.length_map ..)
  dok := h.2.1.dok _
  cl := by have := h.2.1.clen; omega
  el := by have := h.2.1.len; have := h.1; omega
  dl := by have := h.2.1.dlen; omega
theorem St4.next {k : Nat} {q : Nat × Sh} (h : St4 H k q) (hk : k ≤ 20) (hlt : q.1 < k) : St4 H k (q.1 + 1, askS q.2 [99] [118] 1 ((q.1 : Int) + 1) (H.key 1) (H.key 2) (H.key 3)) := by
  refine ⟨hlt, h.2.1.next (by omega) _ _ _, ?_, rfl, rfl⟩
  show outV _ 5 (refW _ _).length = outV _ 5 (keepC _ _).length
  rw [keepC_len]
theorem f11_yes {s : Sh} (h : s.ok H) (hd : s.done.length < 100000) (he : s.evs.length < 100000) {k : List Nat} {l r : Int} (g1 : okSplit s l r) (g2 : inSplit s k) :
    FnOk Tryz.prog 11 [.agg s.enc, .str k, .int .i64 l, .int .i64 r] H fun v G => ∃ a b L, v = .tup [.agg (Sh.enc a), .agg (Sh.enc b), .nili] ∧ G = H.ext L ∧ Sh.ok G a ∧ Sh.ok G b ∧ sameSh a (saidPart s l s.fr k) ∧ sameSh b (saidPart s r k s.to) := by
  refine (f11_ok h hd he k l r).mono ?_
  rintro v G ⟨rfl, rfl⟩
  unfold splitV splitB
  rw [if_pos g1, if_pos g2, if_pos ⟨g1, g2⟩]
  exact ⟨_, _, _, rfl, rfl, part_ok h l s.fr k (a := 0) (b := 1) (c := 2) rfl rfl rfl, part_ok h r k s.to (a := 3) (b := 4) (c := 5) rfl rfl rfl, ⟨rfl, rfl, rfl, rfl, rfl, rfl, rfl, rfl⟩, ⟨rfl, rfl, rfl, rfl, rfl, rfl, rfl, rfl⟩⟩
theorem f13_yes {s t : Sh} (h : s.ok H) (h2 : t.ok H) (hsd : s.done.length < 10000) (htd : t.done.length < 10000) (hsc : s.cells.length < 10000) (htc : t.cells.length < 10000) (hse : s.evs.length < 10000) (hte : t.evs.length < 10000) {id : Int} (g1 : okJoin s t id) (g2 : meets s t) :
    FnOk Tryz.prog 13 [.agg s.enc, .agg t.enc, .int .i64 id] H fun v G => ∃ j L, v = .tup [.agg (Sh.enc j), .nili] ∧ G = H.ext L ∧ Sh.ok G j ∧ sameSh j (saidJoin s t id) := by
  refine (f13_ok h h2 (by omega) (by omega) hsc htc hse hte id).mono ?_
  rintro v G ⟨rfl, rfl⟩
  unfold joinV joinB
  rw [if_pos g1, if_pos g2, if_pos ⟨g1, g2⟩]
  have hjl : (joinP s.done t.done).length < 4294967296 := by have := joinP_len (a := s.done) (b := t.done); omega
  exact ⟨_, _, rfl, rfl, join_ok h.dok h2.dok (by omega) (by omega) hjl (i := 0) (j := 1) (k := 2) rfl rfl rfl, ⟨rfl, rfl, rfl, rfl, rfl, rfl, rfl, rfl⟩⟩
theorem askS_ok {s : Sh} {G : Heap} {L : List Blk} {i j q : Nat} {k v : List Nat} {ses id : Int} (hc : (refW s.cells (nextC s.cells k v false)).length < 10000) (he : s.evs.length < 10000) (hd : (withD s.done ⟨ses, id, putA ((getL s.cells k).1.ver + 1)⟩).length < 10000) (hdok : allOk G s.done) (h1 : L[i]? = some (outB 5 ((askS s k v ses id .z .z .z).cells.map Cell.enc))) (h2 : L[j]? = some (outB 4 ((askS s k v ses id .z .z .z).evs.map Evn.enc))) (h3 : L[q]? = some (outB 6 ((askS s k v ses id .z .z .z).done.map Dn.enc))) : (askS s k v ses id (G.key i) (G.key j) (G.key q)).ok (G.ext L) where
  c := arr_outV h1 (by rw [List.length_map]; exact keepC_len _ _)
  e := arr_outV h2 (List.length_map ..)
  d := arr_outV h3 (List.length_map ..)
  dok := (withD_ok hdok (putA_ok G _)).ext L
  cl := by show (keepC _ _).length < _; rw [keepC_len]; omega
  el := by show (List.drop _ _).length < _; rw [List.length_drop, List.length_append]; show s.evs.length + 1 - _ < _; omega
  dl := by show (withD _ _).length < _; omega
theorem LoI.okJ {k : Nat} {a t : Sh} (h : LoI k a) (ht : isSh t) (hf : t.frz = false) : okJoin a t 4 := ⟨⟨h.sh, by rw [h.frz]; decide⟩, ⟨ht, by rw [hf]; decide⟩, by decide, by decide⟩
theorem f4_ok {n : Int} (hn0 : 0 ≤ n) (hn1 : n < 256) (low join : Bool) : FnOk Tryz.prog 4 [.int .u8 n, .bool low, .bool join] H fun r G => r = .bool true ∧ G = H := by
  refine FnOk.assume fun hok => ?_
  refine FnOk.drop (R := fun r => r = .bool true) ?_ (by rintro v rfl ρ; rw [AV.ren])
  refine FnOk.of_WW Tryz.func4 rfl C4ok R4ok E0 good_E0 ?_
  simp only [go_sem, C4]
  refine CL.of f9_ok ?_
  rintro _ G' ⟨rfl, hG⟩
  rw [hG]
  clear hG
  simp only [go_sem]
  obtain ⟨k, hk1, hk2, hk⟩ : ∃ k : Nat, 1 ≤ k ∧ k ≤ 20 ∧ IntKind.i64.wrap (IntKind.i64.wrap (n.tmod 20) + 1) = (k : Int) := by
    refine ⟨(n % 20).toNat + 1, by omega, by omega, ?_⟩
    have e0 : IntKind.i64.wrap (n % 20) = n % 20 := wrap_i64 (by omega) (by omega)
    rw [Int.tmod_eq_emod_of_nonneg hn0, e0, wrap_i64 (by omega) (by omega)]
    omega
  rw [hk]
  refine LL.st good_E0 (fun q : Nat × Sh => k - q.1) (St4 H k)
    (fun q => [((.o .z), .bool low), ((.i .z), .bool join), ((.o (.o (.o .z))), .ptr (H.key 0) 0), ((.i (.o (.o .z))), .int .i64 k), ((.o (.i (.o .z))), .int .i64 ((q.1 : Int) + 1))])
    bl4 ?_ (0, ⟨1, 1, [], [], false, [], [], [], .nils, .nils, .nils⟩) (σ := [0, 1, 2, 3]) (Wk.of rfl (by decide) (by simp only [go_sem]; rfl) (by simp only [go_sem, bl4, Sh.enc])) ⟨Nat.zero_le _, AtI.first rfl, rfl, rfl, rfl⟩
  rintro ⟨i, s⟩ hst
  obtain ⟨hi, hat, hcv, hev, hdv⟩ := id hst
  dsimp only at hi hat hcv hev hdv
  by_cases hlt : i < k
  · have hci : (i : Int) + 1 ≤ (k : Int) := by omega
    have hw : IntKind.i64.wrap ((i : Int) + 1 + 1) = (i : Int) + 1 + 1 := wrap_i64 (by omega) (by omega)
    have h := hst.ok hk2 (L := bl4 (i, s)) rfl rfl rfl
    have hcl := hat.clen
    have hdl := hat.dlen
    have hel := hat.len
    simp only [go_sem, C4L0, hci, bl4, Sh.enc]
    refine CL.of (f17_put (s := s) h (by omega) (by omega) (by omega) key_c (by decide) hat.hist (by rw [hat.get.1]; omega) hat.up hat.stands (hat.keeps _)) ?_
    rintro _ _ ⟨rfl, rfl⟩
    have hdr := withD_ok (hat.dok H) (putA_ok H ((getL s.cells [99]).1.ver + 1)) (d := ⟨1, (i : Int) + 1, putA ((getL s.cells [99]).1.ver + 1)⟩)
    have drn := hdr.rens
    simp only [go_sem, bl4, askS, addS, askB, addB, Sh.enc, Heap.key_ext, hw]
    exact ⟨(i + 1, askS s [99] [118] 1 ((i : Int) + 1) (H.key 1) (H.key 2) (H.key 3)), by show k - (i + 1) < k - i; omega, hst.next hk2 hlt, _, [0, 4, 5, 6], rfl, Wk.of rfl (by decide) (by simp only [go_sem]; rfl) (by simp only [go_sem, bl4, askS, addS, Sh.enc, outV_ren', ↓outB_ren', Cell.map_rens, Evn.map_rens, drn, implies_true])⟩
  · obtain rfl : i = k := by omega
    have hci : ¬ (i : Int) + 1 ≤ (i : Int) := by omega
    have hw1 : IntKind.i64.wrap ((i : Int) + 1) = (i : Int) + 1 := wrap_i64 (by omega) (by omega)
    have h := hst.ok hk2 (L := bl4 (i, s)) rfl rfl rfl
    have hcl := hat.clen
    have hdl := hat.dlen
    have hel := hat.len
    simp only [go_sem, C4L0, hci, bl4, Sh.enc]
    refine CL.of (f11_yes (s := s) h (by omega) (by omega) (hat.okS hk1 hk2) hat.inS) ?_
    rintro _ G1 ⟨a, b, L1, rfl, hG1, ha, hb, sa, sb⟩
    replace hG1 : G1 = (H.ext (bl4 (i, s))).ext L1 := hG1
    have hLo := hat.lo hk1 hk2 sa
    have hHi := hat.hi hk1 hk2 sb
    rw [Heap.ext_append] at hG1
    obtain ⟨LB, hLB⟩ : ∃ L, G1 = H.ext L := ⟨_, hG1⟩
    have hok1 : G1.ok := by rw [hLB]; exact Heap.ok_ext hok _
    clear hG1 sa sb h hst hcv hev hdv
    refine WW.nil ?_
    have hbd : HiI i b := hHi
    cases join with
    | true =>
      simp only [go_sem, Sh.enc, hw1]
      refine CL.of (f17_put (s := b) (k := [120]) (v := [118]) (hb.ext _) (by rw [hHi.done]; show 1 < 9000; decide) (by rw [hHi.evs]; show 0 < 9000; decide) (by rw [hHi.cells]; show 0 < 9000; decide) key_x (by decide) (by rw [hHi.evs, hHi.cells]; exact hist_nil) (by rw [hHi.cells]; decide) (by rw [hHi.done]; exact one_up _) (by rw [hHi.done]; exact stands_next ..) (by rw [hHi.done]; exact keeps_next _ _ _)) ?_
      rintro _ G' ⟨rfl, hG⟩
      rw [hG]
      clear hG
      obtain ⟨j1, j2, j3, j4⟩ := hHi.ask hk2 (G1.key 2) (G1.key 3) (G1.key 4)
      have hbo : (askS b [120] [118] 1 ((i : Int) + 1) (G1.key 2) (G1.key 3) (G1.key 4)).ok (G1.ext ([.row true 8 [a.enc], .row true 8 [(askS b [120] [118] 1 ((i : Int) + 1) (G1.key 2) (G1.key 3) (G1.key 4)).enc]] ++ askB b [120] [118] 1 ((i : Int) + 1))) :=
        askS_ok (by rw [hHi.cells]; exact Nat.le_of_ble_eq_true rfl) (by rw [hHi.evs]; exact Nat.le_of_ble_eq_true rfl) (Nat.lt_of_le_of_lt withD_len (by rw [hHi.done]; exact Nat.le_of_ble_eq_true rfl)) hb.dok rfl rfl rfl
      obtain ⟨B5, B4, B6, hB⟩ : ∃ B5 B4 B6, askB b [120] [118] 1 ((i : Int) + 1) = [B5, B4, B6] := ⟨_, _, _, rfl⟩
      have htf : (askS b [120] [118] 1 ((i : Int) + 1) (G1.key 2) (G1.key 3) (G1.key 4)).frz = false := hHi.hd.2.2.2.2
      have htr : (askS b [120] [118] 1 ((i : Int) + 1) (G1.key 2) (G1.key 3) (G1.key 4)).fr = [109] := hHi.hd.2.2.1
      simp only [Heap.key_ext, List.length_cons, List.length_nil, Nat.zero_add, Nat.reduceAdd, Nat.add_zero]
      rw [hB] at hbo ⊢
      generalize askS b [120] [118] 1 ((i : Int) + 1) (G1.key 2) (G1.key 3) (G1.key 4) = t at *
      simp only [go_sem, Sh.enc] at hbo ⊢
      refine CL.of (f13_yes (s := a) (t := t) (ha.ext _) hbo (by rw [hLo.done]; exact Nat.le_of_ble_eq_true rfl) (by rw [j2]; exact Nat.le_of_ble_eq_true rfl) (by have := hLo.cells; omega) (by omega) (by have := hLo.evs; omega) (by omega) (hLo.okJ j1 htf) ⟨hLo.sh.2.1, j1.2.1, by rw [hLo.to]; simp, hLo.to.trans htr.symm⟩) ?_
      rintro _ G2 ⟨j, L2, rfl, hG2, hj, sj⟩
      have hjd : j.done = [⟨1, (i : Int) + 1, putA 1⟩] := by
        rw [sj.2.2.2.2.2.2.2]
        show joinP a.done t.done = _
        rw [hLo.done, j2, joined_done]
      rw [hLB, Heap.ext_append, Heap.ext_append] at hG2
      have hB2 : ∃ L, G2 = H.ext L := ⟨_, hG2⟩
      obtain ⟨LC, hLC⟩ := hB2
      clear hG2 hbo
      refine WW.nil ?_
      simp only [go_sem, Sh.enc]
      refine CL.of (f17_stood (s := j) (hj.ext _) (by rw [hjd]; exact Nat.le_of_ble_eq_true rfl) 1 i (by rw [hjd, stands_old]; decide) 2 [99] [] [97, 103, 97, 105, 110] 0) ?_
      rintro _ G' ⟨rfl, hG⟩
      rw [hG]
      clear hG
      rw [hjd, stands_old]
      simp only [go_sem, Sh.enc, An.enc, hw1]
      refine CL.of (f17_stood (s := j) (hj.ext _) (by rw [hjd]; exact Nat.le_of_ble_eq_true rfl) 1 ((i : Int) + 1) (by rw [hjd, stands_same]; decide) 2 [120] [] [97, 103, 97, 105, 110] 0) ?_
      rintro _ G' ⟨rfl, hG⟩
      rw [hG]
      clear hG
      rw [hjd, stands_same]
      simp only [go_sem, Sh.enc, An.enc]
      rw [hLC, Heap.ext_append]
      exact ⟨_, rfl⟩
    | false =>
      cases low with
      | true =>
        obtain ⟨x0, x1, x2, x3, hx⟩ : ∃ x0 x1 x2 x3, getA (getL a.cells [99]).1 = [x0, x1, x2, x3] := by unfold getA; split <;> exact ⟨_, _, _, _, rfl⟩
        simp only [go_sem, Sh.enc, hw1]
        refine CL.of (f17_stood (s := a) (ha.ext _) (by rw [hLo.done]; exact Nat.le_of_ble_eq_true rfl) 1 i (by rw [hLo.done, stands_same]; exact (by decide : ¬ (1 : Int) = 0)) 2 [99] [] [97, 103, 97, 105, 110] 0) ?_
        rintro _ G' ⟨rfl, hG⟩
        rw [hG]
        clear hG
        rw [hLo.done, stands_same]
        simp only [go_sem, Sh.enc, An.enc, putA, hw1]
        refine CL.of (f17_get (s := a) (ha.ext _) (by rw [hLo.done]; exact Nat.le_of_ble_eq_true rfl) (k := [99]) key_c (by rw [hLo.done]; exact stands_next ..)) ?_
        rintro _ G' ⟨rfl, hG⟩
        rw [hG]
        clear hG
        rw [hx]
        simp only [go_sem, Sh.enc, An.enc]
        rw [hLB, Heap.ext_append]
        exact ⟨_, rfl⟩
      | false =>
        obtain ⟨x0, x1, x2, x3, hx⟩ : ∃ x0 x1 x2 x3, getA (getL b.cells [99]).1 = [x0, x1, x2, x3] := by unfold getA; split <;> exact ⟨_, _, _, _, rfl⟩
        simp only [go_sem, Sh.enc, hw1]
        refine CL.of (f17_stood (s := b) (hb.ext _) (by rw [hHi.done]; exact Nat.le_of_ble_eq_true rfl) 1 i (by rw [hHi.done, stands_same]; exact (by decide : ¬ (1 : Int) = 0)) 2 [99] [] [97, 103, 97, 105, 110] 0) ?_
        rintro _ G' ⟨rfl, hG⟩
        rw [hG]
        clear hG
        rw [hHi.done, stands_same]
        simp only [go_sem, Sh.enc, An.enc, putA, hw1]
        refine CL.of (f17_get (s := b) (hb.ext _) (by rw [hHi.done]; exact Nat.le_of_ble_eq_true rfl) (k := [99]) key_c (by rw [hHi.done]; exact stands_next ..)) ?_
        rintro _ G' ⟨rfl, hG⟩
        rw [hG]
        clear hG
        rw [hx]
        simp only [go_sem, Sh.enc, An.enc]
        rw [hLB, Heap.ext_append]
        exact ⟨_, rfl⟩
end Go.Proofs
