/- CutOnce: the plain law. -/
import Derived.Test.YtkhaejbkdgbjcaaGreatDoorZ19
import Derived.Test.YtkhaejbkdgbjcaaGreatDoorProg
import Derived.KernelRfl
set_option linter.all false
set_option linter.all false
set_option maxRecDepth 100000
namespace Go.Proofs
open Go Go.Ev
variable {H : Heap}

theorem isSh_same {a b : Sh} (h : sameSh a b) (hb : isSh b) : isSh a := by
  obtain ⟨h1, h2, h3, h4, h5, h6, h7, h8⟩ := h
  unfold isSh at hb ⊢
  rw [h1, h2, h3, h4, h6, h7, h8]
  exact hb
def cK (n : Int) : Cell := ⟨[99], [118], n, false, 0⟩
/-- the shard behind so many requests -/
structure AtI (i : Nat) (s : Sh) : Prop where
  hd : s.id = 1 ∧ s.ep = 1 ∧ s.fr = [] ∧ s.to = [] ∧ s.frz = false
  hist : isHist s.evs s.cells
  len : s.evs.length = i
  keys : ∀ e ∈ s.evs, e.key = [99]
  cells : s.cells = if i = 0 then [] else [cK i]
  done : s.done = if i = 0 then [] else [⟨1, i, putA i⟩]
theorem AtI.get {i : Nat} {s : Sh} (h : AtI i s) : (getL s.cells [99]).1.ver = i ∧ (getL s.cells [99]).1.floor = 0 := by
  rw [h.cells]
  by_cases hi : i = 0
  · subst hi; exact ⟨rfl, rfl⟩
  · rw [if_neg hi]; exact ⟨rfl, rfl⟩
theorem AtI.nextC {i : Nat} {s : Sh} (h : AtI i s) : nextC s.cells [99] [118] false = cK ((i : Int) + 1) := by
  unfold Go.Proofs.nextC cK; rw [h.get.1, h.get.2]
theorem AtI.withL {i : Nat} {s : Sh} (h : AtI i s) (n : Int) : withL s.cells (cK n) = [cK n] := by
  rw [h.cells]
  by_cases hi : i = 0
  · rw [if_pos hi]; rfl
  · rw [if_neg hi, Go.Proofs.withL, if_neg (show ¬ ltS (cK i).key (cK n).key from ltS_irrefl _), if_pos (show (cK i).key = (cK n).key from rfl)]
theorem AtI.stands {i : Nat} {s : Sh} (h : AtI i s) : (stands s.done 1 ((i : Int) + 1)).2 = 0 := by
  rw [h.done]
  by_cases hi : i = 0
  · rw [if_pos hi]; rfl
  · rw [if_neg hi]
    show (if (i : Int) < (i : Int) + 1 then ((zeroA, 0) : An × Int) else _).2 = 0
    rw [if_pos (by omega)]
theorem AtI.keeps {i : Nat} {s : Sh} (h : AtI i s) (a : An) : ¬ keepsD s.done ⟨1, (i : Int) + 1, a⟩ := by
  rintro ⟨x, h1, h2⟩
  rw [h.done] at h1
  by_cases hi : i = 0
  · rw [if_pos hi] at h1; cases h1
  · rw [if_neg hi] at h1
    cases h1
    have h2 : (i : Int) + 1 < (i : Int) := h2
    omega
theorem AtI.up {i : Nat} {s : Sh} (h : AtI i s) : upD s.done := by
  rw [h.done]
  split
  · exact .nil
  · exact List.pairwise_singleton ..
theorem AtI.dlen {i : Nat} {s : Sh} (h : AtI i s) : s.done.length ≤ 1 := by rw [h.done]; split <;> exact Nat.le_of_ble_eq_true rfl
theorem AtI.clen {i : Nat} {s : Sh} (h : AtI i s) : s.cells.length ≤ 1 := by rw [h.cells]; split <;> exact Nat.le_of_ble_eq_true rfl
theorem key_c : isKey [99] := ⟨by simp, by show (1 : Int) ≤ 8; decide⟩
theorem askS_hist {s : Sh} (hI : isHist s.evs s.cells) {k v : List Nat} (hk : isKey k) (hv : (v.length : Int) ≤ 12) (hm : (getL s.cells k).1.ver < 1000000000000) (ses id : Int) (k0 k1 k2 : K) : isHist (askS s k v ses id k0 k1 k2).evs (askS s k v ses id k0 k1 k2).cells := by
  have := putS_hist hI hk hv hm
  show isHist _ (keepC _ (refW s.cells (Go.Proofs.nextC s.cells k v false)))
  rw [refW_eq hI.1]
  exact this
theorem withD_one (s : Int) {i j : Int} (hi : i ≤ j) (a b : An) : withD [⟨s, i, a⟩] ⟨s, j, b⟩ = [⟨s, j, b⟩] := by
  unfold withD putGD
  rw [if_neg (Int.lt_irrefl s), if_pos rfl, lateD, if_pos hi]
theorem AtI.next {i : Nat} {s : Sh} (h : AtI i s) (hi : i < 24) (k0 k1 k2 : K) : AtI (i + 1) (askS s [99] [118] 1 ((i : Int) + 1) k0 k1 k2) where
  hd := h.hd
  hist := askS_hist h.hist key_c (by decide) (by rw [h.get.1]; omega) ..
  len := by
    show ((s.evs ++ [nextE s.cells [99] [118] false]).drop ((s.evs ++ [nextE s.cells [99] [118] false]).length - 24)).length = _
    rw [List.length_drop, List.length_append, h.len]
    show i + 1 - (i + 1 - 24) = i + 1
    omega
  keys := by
    intro e he
    have he : e ∈ (s.evs ++ [nextE s.cells [99] [118] false]).drop _ := he
    rcases List.mem_append.1 (List.mem_of_mem_drop he) with he | he
    · exact h.keys e he
    · rw [List.mem_singleton.1 he]; rfl
  cells := by
    show keepC ((s.evs ++ [nextE s.cells [99] [118] false]).take ((s.evs ++ [nextE s.cells [99] [118] false]).length - 24)) (refW s.cells (Go.Proofs.nextC s.cells [99] [118] false)) = _
    rw [show (s.evs ++ [nextE s.cells [99] [118] false]).length - 24 = 0 by rw [List.length_append, h.len]; show i + 1 - 24 = 0; omega, List.take_zero, keepC_nil, refW_eq h.hist.1, h.nextC, h.withL]
    rfl
  done := by
    show withD s.done ⟨1, (i : Int) + 1, putA ((getL s.cells [99]).1.ver + 1)⟩ = _
    rw [h.get.1, h.done]
    by_cases hz : i = 0
    · subst hz; rfl
    · rw [if_neg hz, withD_one 1 (show (i : Int) ≤ (i : Int) + 1 by omega)]
      rfl
theorem putA_is {n : Int} (h1 : 0 ≤ n) (h2 : n < 281474976710656) : isAns (putA n) := ⟨⟨by show (0 : Int) ≤ 0; decide, by show (0 : Int) < _; decide, h1, h2, by show (0 : Int) ≤ 255; decide⟩, by show (0 : Int) ≤ 16; decide, fun ⟨r, hr, _⟩ => absurd hr List.not_mem_nil⟩
theorem done_one {k : Nat} (h1 : 1 ≤ k) (h2 : k ≤ 100) {n : Int} (h3 : 0 ≤ n) (h4 : n ≤ 100) : isDone [⟨1, k, putA n⟩] := done_iff.2 ⟨fun c hc => by
  rw [List.mem_singleton.1 hc]
  exact ⟨⟨by show (0 : Int) ≤ 1; decide, by show (1 : Int) < 3; decide, by show (1 : Int) ≤ (k : Int); omega, by show (k : Int) ≤ 1000000000000; omega⟩, putA_is h3 (by omega)⟩, List.pairwise_singleton ..⟩
theorem AtI.sh {k : Nat} {s : Sh} (h : AtI k s) (h1 : 1 ≤ k) (h2 : k ≤ 20) : isSh s := by
  obtain ⟨e1, e2, e3, e4, e5⟩ := h.hd
  refine ⟨⟨by omega, by omega, by omega, by omega⟩, by rw [e3, e4]; exact k_span, fun c hc => ?_, by rw [h.len]; omega, h.hist, ?_⟩
  · rw [h.cells, if_neg (by omega)] at hc
    rw [List.mem_singleton.1 hc, e3, e4]
    exact k_has 99
  · rw [h.done, if_neg (by omega)]
    exact done_one h1 (by omega) (by omega) (by omega)
theorem AtI.inS {k : Nat} {s : Sh} (h : AtI k s) : inSplit s [109] := by
  obtain ⟨e1, e2, e3, e4, e5⟩ := h.hd
  exact ⟨by rw [e3, e4]; exact k_has 109, by rw [e3]; rfl⟩
theorem AtI.okS {k : Nat} {s : Sh} (h : AtI k s) (h1 : 1 ≤ k) (h2 : k ≤ 20) : okSplit s 2 3 := ⟨⟨h.sh h1 h2, by rw [h.hd.2.2.2.2]; decide⟩, by decide, by decide, by decide⟩
theorem no_hi {t : List Nat} : ¬ has [109] t [99] := fun h => h.2.2.1 lt_cm
theorem hi_cells {n : Int} : withinL [109] [] [cK n] = [] := by
  unfold withinL
  rw [List.filter_cons_of_neg (by rw [decide_eq_false (show ¬ has [109] [] (cK n).key from no_hi)]; decide)]
  rfl
theorem hi_evs {l : List Evn} (h : ∀ e ∈ l, e.key = [99]) : evW [109] [] l = [] := by
  unfold evW
  refine List.filter_eq_nil_iff.2 fun e he => ?_
  rw [h e he, decide_eq_false no_hi]
  decide
/-- both parts of the shard -/
structure LoI (k : Nat) (a : Sh) : Prop where
  sh : isSh a
  to : a.to = [109]
  frz : a.frz = false
  done : a.done = [⟨1, k, putA k⟩]
  cells : a.cells.length ≤ 1
  evs : a.evs.length ≤ 24
structure HiI (k : Nat) (b : Sh) : Prop where
  hd : b.id = 3 ∧ b.ep = 1 ∧ b.fr = [109] ∧ b.to = [] ∧ b.frz = false
  done : b.done = [⟨1, k, putA k⟩]
  cells : b.cells = []
  evs : b.evs = []
theorem AtI.lo {k : Nat} {s a : Sh} (h : AtI k s) (h1 : 1 ≤ k) (h2 : k ≤ 20) (ha : sameSh a (saidPart s 2 s.fr [109])) : LoI k a := by
  have hs := h.sh h1 h2
  have hb := h.inS
  obtain ⟨a1, a2, a3, a4, a5, a6, a7, a8⟩ := id ha
  refine ⟨isSh_same ha (part_sh hs (id := 2) hb.lo ⟨by decide, by decide⟩ .z .z .z), a4, a5, by rw [a8]; show s.done = _; rw [h.done, if_neg (by omega)], ?_, ?_⟩
  · rw [a6]; exact Nat.le_trans (List.length_filter_le ..) h.clen
  · rw [a7]; refine Nat.le_trans (List.length_filter_le ..) ?_; rw [h.len]; omega
theorem AtI.hi {k : Nat} {s b : Sh} (h : AtI k s) (h1 : 1 ≤ k) (h2 : k ≤ 20) (hb : sameSh b (saidPart s 3 [109] s.to)) : HiI k b := by
  obtain ⟨e1, e2, e3, e4, e5⟩ := h.hd
  obtain ⟨a1, a2, a3, a4, a5, a6, a7, a8⟩ := id hb
  refine ⟨⟨a1, a2, a3, a4.trans e4, a5⟩, by rw [a8]; show s.done = _; rw [h.done, if_neg (by omega)], ?_, ?_⟩
  · rw [a6]; show withinL [109] s.to s.cells = []; rw [e4, h.cells, if_neg (by omega), hi_cells]
  · rw [a7]; show evW [109] s.to s.evs = []; rw [e4, hi_evs h.keys]
theorem hist_nil : isHist [] [] := ⟨fun j h => absurd h (Nat.not_lt_zero _), fun e he => absurd he List.not_mem_nil, fun c hc => absurd hc List.not_mem_nil⟩
theorem AtI.first {s : Sh} (h : s = ⟨1, 1, [], [], false, [], [], [], .nils, .nils, .nils⟩) : AtI 0 s := by
  subst h
  exact ⟨⟨rfl, rfl, rfl, rfl, rfl⟩, hist_nil, rfl, fun e he => absurd he List.not_mem_nil, rfl, rfl⟩
end Go.Proofs
/- the code's next cell, Put, an error's number, what an op is: walked. -/

set_option linter.all false
namespace Go.Proofs
open Go.RowKit Go.Extern.Stop Go.Stop Go.Extern
theorem code1_nil (w : World) : Calls Tryz.prog 215 #[.nilIface] w fun e w' => e = .returned (.int .i64 0) ∧ Go.Ev.Grows w w' := by
  go_enter Tryz.func215, Tryz.ntmps215
  go_wp2_with (first | (go_at_call 105; refine (as_nil _ _).mono ?_; rintro e w' ⟨rfl, rfl⟩))
  go_ret
  exact ⟨rfl, Go.Ev.Grows.alloc _ _⟩
set_option maxHeartbeats 4000000 in
theorem code1_num (n : Int) (w : World) (hg : w.cell? ⟨0, 0, none⟩ = some (.iface 242 (.agg #[.pointer (some ⟨2, 72, none⟩)]))) : Calls Tryz.prog 215 #[.iface 118 (.int .i64 n)] w fun e w' => e = .returned (.int .i64 n) ∧ Go.Ev.Grows w w' := by
  have hlt : 0 < w.heap.size := by
    rcases Nat.eq_zero_or_pos w.heap.size with h0 | h
    · simp [World.cell?, h0] at hg
    · exact h
  have hgA : (w.alloc (.cells #[.int .i64 0] 118)).cell? ⟨0, 0, none⟩ = some (.iface 242 (.agg #[.pointer (some ⟨2, 72, none⟩)])) := by
    rw [World.cell?_alloc_lt _ _ ⟨0, 0, none⟩ hlt]; exact hg
  have htA : (w.alloc (.cells #[.int .i64 0] 118)).cell? ⟨w.heap.size, 0, none⟩ = some (.int .i64 0) := by simp
  have hfA : (w.alloc (.cells #[.int .i64 0] 118)).frozen? ⟨w.heap.size, 0, none⟩ = false := by simp
  go_enter Tryz.func215, Tryz.ntmps215
  go_wp2_with (first | (go_at_call 105; refine (as_hit n _ (.int .i64 0) _ hgA htA hfA).mono ?_; rintro e w' ⟨rfl, rfl⟩))
  go_ret
  refine ⟨rfl, ?_⟩
  exact ((((Go.Ev.Grows.alloc _ _).trans (Go.Ev.Grows.alloc _ _)).trans (Go.Ev.Grows.alloc _ _)).trans (Go.Ev.Grows.alloc _ _)).trans (Go.Ev.Grows.alloc _ _)
end Go.Proofs
set_option linter.all false
set_option maxRecDepth 100000
namespace Go.Proofs
open Go Go.Ev
variable {H : Heap}

theorem f215_ok (a : Option Int) : FnOk Tryz.prog 215 [errV a] H fun r G => r = .int .i64 (a.getD 0) ∧ G = H := by
  refine FnOk.of_calls fun φ w args' ha hw => ?_
  obtain ⟨v, rfl, h1⟩ := one_arg ha
  have e1 := errV_inv h1
  cases a with
  | none =>
    obtain rfl : v = .nilIface := e1
    refine (code1_nil w).mono ?_
    rintro e w' ⟨rfl, hg⟩
    exact ⟨⟨_, rfl, .int _ _⟩, hg⟩
  | some a =>
    obtain rfl : v = .iface 118 (.int .i64 a) := e1
    refine (code1_num a w (hw.rom 0 _ (List.mem_singleton.2 rfl)).1).mono ?_
    rintro e w' ⟨rfl, hg⟩
    exact ⟨⟨_, rfl, .int _ _⟩, hg⟩
theorem f274_ok {c : Cell} (h1 : 0 ≤ c.ver) (h2 : c.ver < 1000000000000) (v : List Nat) (d : Bool) : FnOk Tryz.prog 274 [.agg c.enc, .str v, .bool d] H fun r G => r = .tup [.agg (Cell.enc ⟨c.key, v, c.ver + 1, d, c.floor⟩), .agg (Evn.enc ⟨c.key, c.ver + 1, v, d⟩), .nili] ∧ G = H := by
  refine FnOk.drop (R := fun r => r = .tup [.agg (Cell.enc ⟨c.key, v, c.ver + 1, d, c.floor⟩), .agg (Evn.enc ⟨c.key, c.ver + 1, v, d⟩), .nili]) ?_ (by rintro v rfl ρ; simp only [AV.ren, AV.rens, Cell.rens, Evn.rens])
  refine FnOk.of_WW Tryz.func274 rfl C274ok R274ok E0 good_E0 ?_
  have hw : IntKind.i64.wrap (c.ver + 1) = c.ver + 1 := wrap_i64 (by omega) (by omega)
  have z1 := eq_false (show ¬ (1000000000000 : Int) ≤ c.ver by omega)
  simp only [go_sem, C274, Cell.enc, hw, z1]
  exact ⟨rfl, _, rfl⟩
theorem f255_ok {c : Cell} (h1 : 0 ≤ c.ver) (h2 : c.ver < 1000000000000) {v : List Nat} (hv : (v.length : Int) ≤ 12) : FnOk Tryz.prog 255 [.agg c.enc, .str v] H fun r G => r = .tup [.agg (Cell.enc ⟨c.key, v, c.ver + 1, false, c.floor⟩), .agg (Evn.enc ⟨c.key, c.ver + 1, v, false⟩), .nili] ∧ G = H := by
  refine FnOk.drop (R := fun r => r = .tup [.agg (Cell.enc ⟨c.key, v, c.ver + 1, false, c.floor⟩), .agg (Evn.enc ⟨c.key, c.ver + 1, v, false⟩), .nili]) ?_ (by rintro v rfl ρ; simp only [AV.ren, AV.rens, Cell.rens, Evn.rens])
  refine FnOk.of_WW Tryz.func255 rfl C255ok R255ok E0 good_E0 ?_
  have z1 := eq_false (show ¬ (12 : Int) < (v.length : Int) by omega)
  simp only [go_sem, C255, Cell.enc, z1]
  refine CL.of (f274_ok (c := c) h1 h2 v false) ?_
  rintro _ _ ⟨rfl, rfl⟩
  simp only [go_sem, Cell.enc, Evn.enc]
  exact ⟨_, rfl⟩
theorem f173_put (k v : List Nat) : FnOk Tryz.prog 173 [.agg [.int .i64 2, .str k, .str [], .str v, .int .i64 0, .nils]] H fun r G => r = .bool true ∧ G = H := by
  refine FnOk.drop (R := fun r => r = .bool true) ?_ (by rintro v rfl ρ; rw [AV.ren])
  refine FnOk.of_WW Tryz.func173 rfl C173ok R173ok E0 good_E0 ?_
  simp only [go_sem, C173]
  exact ⟨_, rfl⟩
theorem f130_put {k v : List Nat} (hk : isKey k) (hv : (v.length : Int) ≤ 12) : FnOk Tryz.prog 130 [.agg [.int .i64 2, .str k, .str [], .str v, .int .i64 0, .nils]] H fun r G => r = .bool true ∧ G = H := by
  refine FnOk.drop (R := fun r => r = .bool true) ?_ (by rintro v rfl ρ; rw [AV.ren])
  refine FnOk.of_WW Tryz.func130 rfl C130ok R130ok E0 good_E0 ?_
  have z2 := eq_true (show (v.length : Int) ≤ 40 by omega)
  simp only [go_sem, C130]
  refine CL.of (f173_put k v) ?_
  rintro _ _ ⟨rfl, rfl⟩
  simp only [go_sem]
  refine CL.bool (f117_ok k) (fun g => ?_) (fun g => absurd hk g)
  simp only [go_sem, z2]
  exact ⟨_, rfl⟩
theorem f82_put (k v : List Nat) : FnOk Tryz.prog 82 [.agg [.int .i64 2, .str k, .str [], .str v, .int .i64 0, .nils]] H fun r G => r = .bool true ∧ G = H := by
  refine FnOk.drop (R := fun r => r = .bool true) ?_ (by rintro v rfl ρ; rw [AV.ren])
  refine FnOk.of_WW Tryz.func82 rfl C82ok R82ok E0 good_E0 ?_
  simp only [go_sem, C82]
  exact ⟨_, rfl⟩
end Go.Proofs
/- the code's Add, change, one: walked. -/

set_option linter.all false
set_option linter.all false
set_option maxRecDepth 100000
namespace Go.Proofs
open Go Go.Ev
variable {H : Heap}

def A81 (H : Heap) (args : List AV) (l : List Evn) : Prop := ∃ k, args = [outV k 4 l.length] ∧ Arr H 4 (outV k 4 l.length) (l.map Evn.enc) ∧ l.length < 100000
noncomputable def EA (f : FuncId) (args : List AV) (H : Heap) : RC :=
  match f with
  | 107 => ot (A81 H args) fun l => .ok (outV H.nx 4 l.length) (H.ext [outB 4 (l.map Evn.enc)])
  | 219 => ot (A50 H args) fun q => .ok (.tup [outV (H.key 1) 4 (q.1.drop (q.1.length - 24)).length, outV (H.key 0) 5 q.2.length]) (H.ext [outB 5 ((keepC (q.1.take (q.1.length - 24)) q.2).map Cell.enc), outB 4 ((q.1.drop (q.1.length - 24)).map Evn.enc)])
  | _ => .fail
theorem outV_null {k : K} {e n : Nat} (h : n = 0) : outV k e n = .nils := by subst h; rfl
theorem good_EA : Ev.Good Tryz.prog EA := by
  intro f args H r G he φ w args' ha hw
  refine (?_ : FnOk Tryz.prog f args H fun v' G' => v' = r ∧ G' = G).one φ w args' ha hw
  unfold EA at he
  split at he
  · obtain ⟨l, ⟨k, rfl, h1, h2⟩, hz⟩ := ot_ok he
    clear he
    cases hz
    exact clone_n clo75 (List.length_map ..) outV_null h1 (by omega) (fun _ _ => Evn.map_rens _ _)
  · obtain ⟨q, ⟨k, k', rfl, h1, h2, h3, h4⟩, hz⟩ := ot_ok he
    clear he
    cases hz
    exact f219_ok rfl rfl h1 h2 h3 h4
  · cases he
theorem e81 {k : K} {l : List Evn} (hA : Arr H 4 (outV k 4 l.length) (l.map Evn.enc)) (hl : l.length < 100000) (L : List Blk) : EA 107 [outV k 4 l.length] (H.ext L) = .ok (outV (H.key L.length) 4 l.length) (H.ext (L ++ [outB 4 (l.map Evn.enc)])) := by
  show ot (A81 (H.ext L) [outV k 4 l.length]) (fun l => .ok (outV (H.ext L).nx 4 l.length) ((H.ext L).ext [outB 4 (l.map Evn.enc)])) = _
  rw [ot_eq (p := A81 (H.ext L) [outV k 4 l.length]) (x := l) ⟨k, rfl, hA.ext L, hl⟩, Heap.nx_ext, Heap.ext_append]
  rintro l' ⟨k', h1, h2, _⟩
  injection h1 with h1
  rw [← h1] at h2
  exact (evs_uniq (hA.ext L) h2).symm
theorem e37 {k k' : K} {xs : List Evn} {cs : List Cell} {L : List Blk} (h1 : Arr (H.ext L) 4 (outV k 4 xs.length) (xs.map Evn.enc)) (h2 : Arr (H.ext L) 5 (outV k' 5 cs.length) (cs.map Cell.enc)) (hx : xs.length < 100000) (hc : cs.length < 100000) :
    EA 219 [outV k 4 xs.length, outV k' 5 cs.length, .int .i64 24] (H.ext L) = .ok (.tup [outV (H.key (L.length + 1)) 4 (xs.drop (xs.length - 24)).length, outV (H.key L.length) 5 cs.length]) (H.ext (L ++ [outB 5 ((keepC (xs.take (xs.length - 24)) cs).map Cell.enc), outB 4 ((xs.drop (xs.length - 24)).map Evn.enc)])) := by
  show ot (A50 (H.ext L) [outV k 4 xs.length, outV k' 5 cs.length, .int .i64 24]) (fun q => .ok (.tup [outV ((H.ext L).key 1) 4 (q.1.drop (q.1.length - 24)).length, outV ((H.ext L).key 0) 5 q.2.length]) ((H.ext L).ext [outB 5 ((keepC (q.1.take (q.1.length - 24)) q.2).map Cell.enc), outB 4 ((q.1.drop (q.1.length - 24)).map Evn.enc)])) = _
  rw [ot_eq (p := A50 (H.ext L) [outV k 4 xs.length, outV k' 5 cs.length, .int .i64 24]) (x := (xs, cs)) ⟨_, _, rfl, h1, h2, hx, hc⟩, Heap.key_ext, Heap.key_ext, Heap.ext_append]
  · rfl
  rintro ⟨xs', ys'⟩ ⟨k, k', h3, h4, h5, _, _⟩
  injection h3 with h3 h6
  injection h6 with h6 _
  rw [← h3] at h4
  rw [← h6] at h5
  rw [evs_uniq h1 h4, cells_uniq h2 h5]
theorem f257_ok {k k' : K} {l : List Evn} {cs : List Cell} (hA : Arr H 4 (outV k 4 l.length) (l.map Evn.enc)) (hB : Arr H 5 (outV k' 5 cs.length) (cs.map Cell.enc)) (hl : l.length < 10000) (hc : cs.length < 10000) (e : Evn) :
    FnOk Tryz.prog 257 [outV k 4 l.length, outV k' 5 cs.length, .agg e.enc, .int .i64 24] H fun r G => r = .tup [outV (H.key 1) 4 ((l ++ [e]).drop ((l ++ [e]).length - 24)).length, outV (H.key 0) 5 cs.length] ∧ G = H.ext [outB 5 ((keepC ((l ++ [e]).take ((l ++ [e]).length - 24)) cs).map Cell.enc), outB 4 (((l ++ [e]).drop ((l ++ [e]).length - 24)).map Evn.enc)] := by
  refine FnOk.assume fun hok => ?_
  refine FnOk.dropW ?_
  obtain ⟨es, hes⟩ : ∃ es, es = l ++ [e] := ⟨_, rfl⟩
  rw [← hes]
  refine FnOk.of_WW Tryz.func257 rfl C257ok R257ok EA good_EA ?_
  have i81 := e81 hA (by omega)
  have hel : es.length = l.length + 1 := by rw [hes, List.length_append]; rfl
  simp only [go_sem, C257, Evn.enc, i81, ↓appR_hide]
  rw [appQ_out (i := 2) (j := 1) rfl (List.length_map ..) rfl (okBig_le (by omega) (by decide))]
  rw [← hel, show outB 4 (l.map Evn.enc ++ [[.str e.key, .int .i64 e.ver, .str e.val, .bool e.del]]) = outB 4 (es.map Evn.enc) by rw [hes, List.map_append]; rfl]
  have i37 := fun b0 b1 b2 => e37 (H := H) (k := H.key 3) (k' := k') (xs := es) (cs := cs) (L := [b0, b1, b2, outB 4 (es.map Evn.enc)]) (arr_outV (i := 3) rfl (List.length_map ..)) (hB.ext _) (by omega) (by omega)
  simp only [go_sem, i37]
  exact ⟨_, [4, 5], by simp only [outV_ren', go_sem], rfl, rfl, by decide, by simp only [go_sem, ↓outB_ren', Cell.map_rens, Evn.map_rens, implies_true]⟩
theorem frV_pos {v : AV} {k : K} {e n : Nat} (h : 0 < n) : frV v k e n = outV k e n := by
  unfold frV
  split
  · rfl
  · exact (outV_pos h).symm
theorem frL_pos {v : AV} {e : Nat} {xs : List (List AV)} (h : 0 < xs.length) : frL v e xs = [outB e xs] := by
  cases xs with
  | nil => exact absurd h (Nat.lt_irrefl 0)
  | cons x xs => unfold frL; split <;> rfl
theorem withL_pos (c : Cell) : ∀ l : List Cell, 0 < (withL l c).length
  | [] => by simp [withL]
  | d :: l => by
    unfold withL
    split
    · simp
    · split <;> simp
theorem f258_at {v : AV} {l : List Cell} (hA : Arr H 5 v (l.map Cell.enc)) (hl : l.length < 10000) {c : Cell} (hc : cellIs c) :
    FnOk Tryz.prog 258 [v, .agg c.enc] H fun r G => r = outV H.nx 5 (withL l c).length ∧ G = H.ext [outB 5 ((withL l c).map Cell.enc)] := by
  refine (f258_ok hA (by omega) c).mono ?_
  rintro r G ⟨rfl, rfl⟩
  have hp := withL_pos c l
  rw [withC, if_pos hc, frV_pos hp, frL_pos (by rw [List.length_map]; exact hp)]
  exact ⟨rfl, rfl⟩
def A139 (H : Heap) (args : List AV) (q : List Cell × Cell) : Prop := ∃ v, args = [v, .agg q.2.enc] ∧ Arr H 5 v (q.1.map Cell.enc) ∧ q.1.length < 10000 ∧ cellIs q.2
def A138 (H : Heap) (args : List AV) (q : List Evn × List Cell × Evn) : Prop := ∃ k k', args = [outV k 4 q.1.length, outV k' 5 q.2.1.length, .agg q.2.2.enc, .int .i64 24] ∧ Arr H 4 (outV k 4 q.1.length) (q.1.map Evn.enc) ∧ Arr H 5 (outV k' 5 q.2.1.length) (q.2.1.map Cell.enc) ∧ q.1.length < 10000 ∧ q.2.1.length < 10000
noncomputable def EG (f : FuncId) (args : List AV) (H : Heap) : RC :=
  match f with
  | 258 => ot (A139 H args) fun q => .ok (outV H.nx 5 (withL q.1 q.2).length) (H.ext [outB 5 ((withL q.1 q.2).map Cell.enc)])
  | 257 => ot (A138 H args) fun q => .ok (.tup [outV (H.key 1) 4 ((q.1 ++ [q.2.2]).drop ((q.1 ++ [q.2.2]).length - 24)).length, outV (H.key 0) 5 q.2.1.length]) (H.ext [outB 5 ((keepC ((q.1 ++ [q.2.2]).take ((q.1 ++ [q.2.2]).length - 24)) q.2.1).map Cell.enc), outB 4 (((q.1 ++ [q.2.2]).drop ((q.1 ++ [q.2.2]).length - 24)).map Evn.enc)])
  | 215 => match args with | [.nili] => .ok (.int .i64 0) H | _ => .fail
  | _ => .fail
theorem good_EG : Ev.Good Tryz.prog EG := by
  intro f args H r G he φ w args' ha hw
  refine (?_ : FnOk Tryz.prog f args H fun v' G' => v' = r ∧ G' = G).one φ w args' ha hw
  unfold EG at he
  split at he
  · obtain ⟨q, ⟨v, rfl, h1, h2, h3⟩, hz⟩ := ot_ok he
    clear he
    cases hz
    exact f258_at h1 h2 h3
  · obtain ⟨q, ⟨k, k', rfl, h1, h2, h3, h4⟩, hz⟩ := ot_ok he
    clear he
    cases hz
    exact f257_ok h1 h2 h3 h4 _
  · split at he
    · cases he; exact f215_ok none
    · cases he
  · cases he
theorem e139 {v : AV} {l : List Cell} (hA : Arr H 5 v (l.map Cell.enc)) (hl : l.length < 10000) {c : Cell} (hc : cellIs c) (L : List Blk) :
    EG 258 [v, .agg [.str c.key, .str c.value, .int .i64 c.ver, .bool c.del, .int .i64 c.floor]] (H.ext L) = .ok (outV (H.key L.length) 5 (withL l c).length) (H.ext (L ++ [outB 5 ((withL l c).map Cell.enc)])) := by
  show ot (A139 (H.ext L) [v, .agg c.enc]) (fun q => .ok (outV (H.ext L).nx 5 (withL q.1 q.2).length) ((H.ext L).ext [outB 5 ((withL q.1 q.2).map Cell.enc)])) = _
  rw [ot_eq (p := A139 (H.ext L) [v, .agg c.enc]) (x := (l, c)) ⟨v, rfl, hA.ext L, hl, hc⟩, Heap.nx_ext, Heap.ext_append]
  rintro ⟨l', c'⟩ ⟨v', h1, h2, _⟩
  injection h1 with h1 h3
  injection h3 with h3 _
  injection h3 with h3
  dsimp only at h1 h2 h3
  subst h1
  rw [cells_uniq (hA.ext L) h2, Cell.enc_one h3]
theorem e138 {k k' : K} {l : List Evn} {cs : List Cell} {L : List Blk} (hA : Arr (H.ext L) 4 (outV k 4 l.length) (l.map Evn.enc)) (hB : Arr (H.ext L) 5 (outV k' 5 cs.length) (cs.map Cell.enc)) (hl : l.length < 10000) (hc : cs.length < 10000) (e : Evn) :
    EG 257 [outV k 4 l.length, outV k' 5 cs.length, .agg [.str e.key, .int .i64 e.ver, .str e.val, .bool e.del], .int .i64 24] (H.ext L) = .ok (.tup [outV (H.key (L.length + 1)) 4 ((l ++ [e]).drop ((l ++ [e]).length - 24)).length, outV (H.key L.length) 5 cs.length]) (H.ext (L ++ [outB 5 ((keepC ((l ++ [e]).take ((l ++ [e]).length - 24)) cs).map Cell.enc), outB 4 (((l ++ [e]).drop ((l ++ [e]).length - 24)).map Evn.enc)])) := by
  show ot (A138 (H.ext L) [outV k 4 l.length, outV k' 5 cs.length, .agg e.enc, .int .i64 24]) (fun q => .ok (.tup [outV ((H.ext L).key 1) 4 ((q.1 ++ [q.2.2]).drop ((q.1 ++ [q.2.2]).length - 24)).length, outV ((H.ext L).key 0) 5 q.2.1.length]) ((H.ext L).ext [outB 5 ((keepC ((q.1 ++ [q.2.2]).take ((q.1 ++ [q.2.2]).length - 24)) q.2.1).map Cell.enc), outB 4 (((q.1 ++ [q.2.2]).drop ((q.1 ++ [q.2.2]).length - 24)).map Evn.enc)])) = _
  rw [ot_eq (p := A138 (H.ext L) [outV k 4 l.length, outV k' 5 cs.length, .agg e.enc, .int .i64 24]) (x := (l, cs, e)) ⟨_, _, rfl, hA, hB, hl, hc⟩, Heap.key_ext, Heap.key_ext, Heap.ext_append]
  · rfl
  rintro ⟨l', cs', e'⟩ ⟨k, k', h1, h2, h3, _⟩
  injection h1 with h1 h4
  injection h4 with h4 h5
  injection h5 with h5 _
  injection h5 with h5
  dsimp only at h1 h2 h3 h4 h5
  rw [← h1] at h2
  rw [← h4] at h3
  rw [evs_uniq hA h2, cells_uniq hB h3, Evn.enc_one h5]
theorem e109 (H : Heap) : EG 215 [.nili] H = .ok (.int .i64 0) H := rfl
theorem f214_put {s : Sh} (h : s.ok H) {ke : K} (hev : s.ev = outV ke 4 s.evs.length) (hel : s.evs.length < 9000) (hcl : s.cells.length < 9000) {k v : List Nat} (hk : isKey k) (hv : (v.length : Int) ≤ 12) (hI : isHist s.evs s.cells) (hm : (getL s.cells k).1.ver < 1000000000000) :
    FnOk Tryz.prog 214 [.agg s.enc, .str k, .str v, .bool false] H fun r G => r = .tup [.agg (addS s (nextC s.cells k v false) (nextE s.cells k v false) (H.key 0) (H.key 1)).enc, .agg (nextC s.cells k v false).enc, .nili] ∧ G = H.ext (addB s (nextC s.cells k v false) (nextE s.cells k v false)) := by
  refine FnOk.dropW ?_
  refine FnOk.of_WW Tryz.func214 rfl C214ok R214ok EG good_EG ?_
  obtain ⟨c1, c2, c3, c4, _⟩ := cell_of hI k
  have hput := hist_put hI hk hv (d := false) (fun h => by cases h) hm
  have hw : refW s.cells (nextC s.cells k v false) = withL s.cells (nextC s.cells k v false) := refW_eq hI.1 _
  have hwl := withL_len (nextC s.cells k v false) s.cells
  have hcell : cellIs (nextC s.cells k v false) := isIdx_all hput.1 _ (getL_mem getL_withL_self).1
  have hA := h.e
  rw [hev] at hA
  obtain ⟨cs, hcs⟩ : ∃ cs, cs = withL s.cells (nextC s.cells k v false) := ⟨_, rfl⟩
  have i139 := e139 h.c (by omega) hcell
  have i138 := fun b0 b1 b2 b3 b4 b5 => e138 (H := H) (k := ke) (k' := H.key 6) (l := s.evs) (cs := cs) (L := [b0, b1, b2, b3, b4, b5, outB 5 (cs.map Cell.enc)]) (hA.ext _) (arr_outV (i := 6) rfl (List.length_map ..)) (by omega) (by rw [hcs]; omega) (nextE s.cells k v false)
  have dren := h.d.ren
  unfold addS addB
  rw [hw, ← hcs]
  rw [← hcs] at i139
  simp only [nextC, nextE] at i139 i138
  simp only [go_sem, C214, Sh.enc, hev]
  refine CL.of (f120_ok (h.c.ext _) h.cl k) ?_
  rintro _ _ ⟨rfl, rfl⟩
  simp only [go_sem, Cell.enc]
  refine CL.of (f255_ok (c := (getL s.cells k).1) c2 hm hv) ?_
  rintro _ _ ⟨rfl, rfl⟩
  simp only [go_sem, Cell.enc, Evn.enc, c1, i139, i138]
  refine ⟨_, [7, 8], by simp only [nextC, nextE, Sh.enc, Cell.enc, c1, outV_ren', dren, go_sem], rfl, rfl, by decide, by simp only [nextC, nextE, go_sem, ↓outB_ren', Cell.map_rens, Evn.map_rens, implies_true]⟩
end Go.Proofs
/- the code's Do: puts, gets, sets by version: walked. -/

set_option linter.all false
set_option linter.all false
set_option maxRecDepth 100000
namespace Go.Proofs
open Go Go.Ev
variable {H : Heap}

theorem f178_put {s : Sh} (h : s.ok H) {ke : K} (hev : s.ev = outV ke 4 s.evs.length) (hel : s.evs.length < 9000) (hcl : s.cells.length < 9000) {k v : List Nat} (hk : isKey k) (hv : (v.length : Int) ≤ 12) (hI : isHist s.evs s.cells) (hm : (getL s.cells k).1.ver < 1000000000000) :
    FnOk Tryz.prog 178 [.agg s.enc, .str k, .str v, .bool false] H fun r G => r = .tup [.agg (addS s (nextC s.cells k v false) (nextE s.cells k v false) (H.key 0) (H.key 1)).enc, .agg [.int .i64 0, .str [], .int .i64 ((getL s.cells k).1.ver + 1), .nils]] ∧ G = H.ext (addB s (nextC s.cells k v false) (nextE s.cells k v false)) := by
  refine FnOk.dropW ?_
  refine FnOk.of_WW Tryz.func178 rfl C178ok R178ok EG good_EG ?_
  have dren := h.d.ren
  simp only [go_sem, C178, Sh.enc]
  refine CL.of (f214_put (h.ext _) hev hel hcl hk hv hI hm) ?_
  rintro _ _ ⟨rfl, rfl⟩
  simp only [go_sem, Sh.enc, addS, addB, Heap.key_ext, Cell.enc, nextC, nextE, e109]
  exact ⟨_, [3, 4], by simp only [addS, nextC, nextE, Sh.enc, outV_ren', dren, go_sem], rfl, rfl, by decide, by simp only [addB, nextC, nextE, go_sem, ↓outB_ren', Cell.map_rens, Evn.map_rens, implies_true]⟩
theorem f138_put {s : Sh} (h : s.ok H) {ke : K} (hev : s.ev = outV ke 4 s.evs.length) (hel : s.evs.length < 9000) (hcl : s.cells.length < 9000) {k v : List Nat} (hk : isKey k) (hv : (v.length : Int) ≤ 12) (hI : isHist s.evs s.cells) (hm : (getL s.cells k).1.ver < 1000000000000) :
    FnOk Tryz.prog 138 [.agg s.enc, .agg [.int .i64 2, .str k, .str [], .str v, .int .i64 0, .nils]] H fun r G => r = .tup [.agg (addS s (nextC s.cells k v false) (nextE s.cells k v false) (H.key 0) (H.key 1)).enc, .agg [.int .i64 0, .str [], .int .i64 ((getL s.cells k).1.ver + 1), .nils]] ∧ G = H.ext (addB s (nextC s.cells k v false) (nextE s.cells k v false)) := by
  refine FnOk.dropW ?_
  refine FnOk.of_WW Tryz.func138 rfl C138ok R138ok E0 good_E0 ?_
  have dren := h.d.ren
  simp only [go_sem, C138, Sh.enc]
  refine CL.of (f130_put hk hv) ?_
  rintro _ _ ⟨rfl, rfl⟩
  simp only [go_sem]
  refine CL.of (f178_put (h.ext _) hev hel hcl hk hv hI hm) ?_
  rintro _ _ ⟨rfl, rfl⟩
  simp only [go_sem, Sh.enc, addS, addB, Heap.key_ext]
  exact ⟨_, [4, 5], by simp only [addS, nextC, nextE, Sh.enc, outV_ren', dren, go_sem], rfl, rfl, by decide, by simp only [addB, nextC, nextE, go_sem, ↓outB_ren', Cell.map_rens, Evn.map_rens, implies_true]⟩
end Go.Proofs
/- the code's Ask: walked. -/

set_option linter.all false
set_option linter.all false
set_option maxRecDepth 100000
namespace Go.Proofs
open Go Go.Ev
variable {H : Heap}

theorem rows_le {l : List Dn} (h : ∀ d ∈ l, d.an.rows = []) : ∀ d ∈ l, (d.an.rows.length : Int) ≤ 16 := fun d hd => by rw [h d hd]; decide
theorem stands_rows {l : List Dn} (h : ∀ d ∈ l, d.an.rows = []) (s id : Int) : (stands l s id).1.rows = [] := by
  unfold stands
  cases hf : findD l s with
  | none => rfl
  | some d =>
    dsimp only
    split
    · rfl
    · split
      · exact h d (findD_mem hf).1
      · rfl
theorem f81_put {s : Sh} (h : s.ok H) {ke : K} (hev : s.ev = outV ke 4 s.evs.length) (hel : s.evs.length < 9000) (hcl : s.cells.length < 9000) {k v : List Nat} (hk : isKey k) (hv : (v.length : Int) ≤ 12) (hI : isHist s.evs s.cells) (hm : (getL s.cells k).1.ver < 1000000000000) (hdl : s.done.length < 9000) (hup : upD s.done) (hrw : ∀ d ∈ s.done, d.an.rows = []) {ses id : Int} (hn : (stands s.done ses id).2 = 0) :
    FnOk Tryz.prog 81 [.agg s.enc, .int .i64 ses, .int .i64 id, .agg [.int .i64 2, .str k, .str [], .str v, .int .i64 0, .nils]] H fun r G => r = .tup [.agg (askS s k v ses id (H.key 0) (H.key 1) (H.key 2)).enc, .agg [.int .i64 0, .str [], .int .i64 ((getL s.cells k).1.ver + 1), .nils], .int .i64 0] ∧ G = H.ext (askB s k v ses id) := by
  refine FnOk.dropW ?_
  refine FnOk.of_WW Tryz.func81 rfl C81ok R81ok E0 good_E0 ?_
  have hdok := withD_ok h.dok (putA_ok H ((getL s.cells k).1.ver + 1)) (d := ⟨ses, id, putA ((getL s.cells k).1.ver + 1)⟩)
  have drn := hdok.rens
  simp only [go_sem, C81, Sh.enc]
  refine CL.of (f137_ok (h.d.ext _) (h.dok.ext _) (by omega) hup (rows_le hrw) ses id) ?_
  rintro _ _ ⟨z, rfl, rfl⟩
  have hrr := stands_rows hrw ses id
  cases z
  all_goals
    simp only [go_sem, ansV, hn, hrr, zV, zB]
    refine CL.of (f138_put (h.ext _) hev hel hcl hk hv hI hm) ?_
    rintro _ _ ⟨rfl, rfl⟩
    simp only [go_sem, Sh.enc, addS, addB, Heap.key_ext]
    refine CL.of (f82_put k v) ?_
    rintro _ _ ⟨rfl, rfl⟩
    simp only [go_sem, Sh.enc]
    refine CL.of (f139_ok (d := ⟨ses, id, putA ((getL s.cells k).1.ver + 1)⟩) (h.d.ext _) (h.dok.ext _) (putA_ok _ _) hup (by omega)) ?_
    rintro _ _ ⟨rfl, rfl⟩
    simp only [go_sem, Sh.enc]
    exact ⟨_, [6, 7, 9], by simp only [askS, addS, nextC, nextE, Sh.enc, outV_ren', go_sem], rfl, rfl, by decide, by simp only [askB, addB, nextC, nextE, go_sem, ↓outB_ren', Cell.map_rens, Evn.map_rens, drn, implies_true]⟩
end Go.Proofs
/- The laid-out code of the functions that are walked. -/

set_option linter.all false
set_option maxRecDepth 100000
namespace Go.Proofs
open Go Go.Ev K
end Go.Proofs
/- The laid-out code of the functions that are walked. -/

set_option linter.all false
set_option maxRecDepth 100000
namespace Go.Proofs
open Go Go.Ev K
noncomputable def C7 := mkC Tryz.prog Tryz.f7 192
theorem C7ok : CCok Tryz.prog Tryz.f7 192 C7 := mkC_ok _
@[go_sem] theorem call7 (a H) : callC Tryz.prog 7 a H = .call 7 a := callC_ok (by kernel_rfl) a H
theorem R7ok : resKs Tryz.prog Tryz.f7.results.toList = some [RK.tmp z.o.i] := by kernel_rfl
end Go.Proofs
/- token: where a key is, walked. -/



set_option linter.all false
set_option maxRecDepth 100000
namespace Go.Proofs
open Go Go.Ev
variable {H : Heap}

/-- how far one has seen of a key -/
structure Sn where
  key : List Nat
  ver : Int
def Sn.enc (c : Sn) : List AV := [.str c.key, .int .i64 c.ver]
theorem Sn.rens (ρ : K → K) (c : Sn) : AV.rens ρ c.enc = c.enc := by simp only [Sn.enc, AV.rens, AV.ren]
theorem Sn.map_rens (ρ : K → K) (l : List Sn) : (l.map Sn.enc).map (AV.rens ρ) = l.map Sn.enc := by
  rw [List.map_map]; exact List.map_congr_left fun c _ => Sn.rens ρ c
def hasAt (l : List Sn) (k : List Nat) (i : Nat) : Prop := ∃ c, l[i]? = some c ∧ c.key = k
noncomputable instance (l : List Sn) (k : List Nat) (i : Nat) : Decidable (hasAt l k i) := Classical.propDecidable _
end Go.Proofs
/- token: what has been seen, the plain law. -/

set_option linter.all false
set_option maxRecDepth 100000
namespace Go.Proofs
open Go Go.Ev
def okS (c : Sn) : Prop := isKey c.key ∧ 0 ≤ c.ver ∧ c.ver ≤ 1000000000000
def okTk (l : List Sn) (j : Nat) : Prop := ∃ c, l[j]? = some c ∧ okS c ∧ (0 < j → ∃ d, l[j - 1]? = some d ∧ ltS d.key c.key)
def isTok (l : List Sn) : Prop := ∀ j, j < l.length → okTk l j
noncomputable instance (l : List Sn) : Decidable (isTok l) := Classical.propDecidable _
abbrev up (l : List Sn) : Prop := l.Pairwise fun c d => ltS c.key d.key
theorem up_cons {c : Sn} {l : List Sn} : up (c :: l) ↔ (∀ d ∈ l, ltS c.key d.key) ∧ up l := List.pairwise_cons
theorem isTok_cons {c : Sn} {l : List Sn} : isTok (c :: l) ↔ okS c ∧ (∀ d, l[0]? = some d → ltS c.key d.key) ∧ isTok l := by
  constructor
  · intro h
    obtain ⟨c', h0, h1, _⟩ := h 0 (by simp)
    cases h0
    refine ⟨h1, fun d hd => ?_, fun j hj => ?_⟩
    · obtain ⟨e, g0, _, g2⟩ := h 1 (by have := (List.getElem?_eq_some_iff.1 hd).1; simp; omega)
      obtain ⟨c', g3, g4⟩ := g2 (by decide)
      rw [List.getElem?_cons_succ, hd] at g0; cases g0
      cases g3; exact g4
    · obtain ⟨e, g0, g1, g2⟩ := h (j + 1) (by simp; omega)
      rw [List.getElem?_cons_succ] at g0
      refine ⟨e, g0, g1, fun h0 => ?_⟩
      obtain ⟨c', g3, g4⟩ := g2 (by omega)
      rw [show j + 1 - 1 = (j - 1) + 1 by omega, List.getElem?_cons_succ] at g3
      exact ⟨c', g3, g4⟩
  · rintro ⟨h1, h2, h3⟩ j hj
    cases j with
    | zero => exact ⟨c, rfl, h1, fun h => absurd h (by decide)⟩
    | succ j =>
      obtain ⟨e, g0, g1, g2⟩ := h3 j (by simp at hj; omega)
      refine ⟨e, by rw [List.getElem?_cons_succ]; exact g0, g1, fun _ => ?_⟩
      cases j with
      | zero => exact ⟨c, rfl, h2 e g0⟩
      | succ j => obtain ⟨d, g3, g4⟩ := g2 (by omega); exact ⟨d, by simpa using g3, g4⟩
theorem tok_iff : ∀ {l : List Sn}, isTok l ↔ (∀ c ∈ l, okS c) ∧ up l
  | [] => ⟨fun _ => ⟨by simp, .nil⟩, fun _ j hj => by simp at hj⟩
  | c :: l => by
    rw [isTok_cons, tok_iff (l := l), up_cons]
    constructor
    · rintro ⟨h1, h2, h3, h4⟩
      refine ⟨by simpa using ⟨h1, h3⟩, fun d hd => ?_, h4⟩
      cases l with
      | nil => simp at hd
      | cons e l =>
        have he := h2 e rfl
        rcases List.mem_cons.1 hd with rfl | hd
        · exact he
        · exact ltS_trans he ((up_cons.1 h4).1 d hd)
    · rintro ⟨h1, h2, h4⟩
      exact ⟨h1 c (by simp), fun d hd => h2 d (List.mem_of_getElem? hd), fun d hd => h1 d (by simp [hd]), h4⟩
theorem isTok.up {l : List Sn} (h : isTok l) : up l := (tok_iff.1 h).2
/-- what is there of a key -/
noncomputable def getS : List Sn → List Nat → Option Sn
  | [], _ => none
  | c :: l, k => if c.key = k then some c else getS l k
end Go.Proofs
/- token: whether they are any, a key's version, the same, few: walked. -/



set_option linter.all false
set_option maxRecDepth 100000
namespace Go.Proofs
open Go Go.Ev
variable {H : Heap}

noncomputable def ofT (l : List Sn) (k : List Nat) : Int := match getS l k with | some c => c.ver | none => 0
noncomputable instance : DecidableEq Sn := fun _ _ => Classical.propDecidable _
theorem Sn.enc_inj {c d : Sn} (h : c.key = d.key ∧ c.ver = d.ver) : c = d := by cases c; cases d; simp_all
def fewT (l : List Sn) : Prop := (∀ c ∈ l, (c.key.length : Int) ≤ 20) ∧ (l.length : Int) ≤ 30
instance (l : List Sn) : Decidable (fewT l) := inferInstanceAs (Decidable (_ ∧ _))
end Go.Proofs
/- where two spans meet, as the code has it: walked. -/


set_option linter.all false
set_option linter.all false
set_option maxRecDepth 100000
namespace Go.Proofs
open Go Go.Ev
variable {H : Heap}

noncomputable def maxS (a b : List Nat) : List Nat := if ltS a b then b else a
@[go_sem] theorem max_str {β : Type} (a b : List Nat) (f : β) (c : AV → β) : mm2 true (.str a) (.str b) f c = c (.str (maxS a b)) := by
  show bif' (bif' true (Bool.not (ltL a b)) (Bool.or (ltL a b) (eqL a b))) (c (.str a)) (c (.str b)) = _
  unfold maxS
  rw [bif_true, ltL_dec, bif_eq]
  by_cases h : ltS a b
  · rw [decide_eq_true h, if_pos h]; rfl
  · rw [decide_eq_false h, if_neg h]; rfl
noncomputable def minS (a b : List Nat) : List Nat := if ltS b a then b else a
@[go_sem] theorem min_str {β : Type} (a b : List Nat) (f : β) (c : AV → β) : mm2 false (.str a) (.str b) f c = c (.str (minS a b)) := by
  show bif' (bif' false (Bool.not (ltL a b)) (Bool.or (ltL a b) (eqL a b))) (c (.str a)) (c (.str b)) = _
  unfold minS
  rw [bif_false, ltL_dec, eqL_eq, bif_eq]
  rcases ltS_tri a b with h | h | h
  · rw [decide_eq_true h, if_neg (ltS_asymm h)]; rfl
  · subst h; rw [if_neg (ltS_irrefl a)]; simp
  · rw [decide_eq_false (ltS_asymm h), if_pos h, decide_eq_false (by rintro rfl; exact ltS_irrefl _ h)]; rfl
end Go.Proofs
/- what comes behind what was seen, as the code has it: walked. -/

set_option linter.all false
set_option linter.all false
set_option maxRecDepth 100000
namespace Go.Proofs
open Go Go.Ev
variable {H : Heap}

theorem Sn.enc_one {a b : Sn} (h : a.enc = b.enc) : a = b := by
  cases a; cases b; simp [Sn.enc] at h; simp [h]
def tellE (f t : List Nat) (seen : List Sn) (e : Evn) : Prop := has f t e.key ∧ ofT seen e.key < e.ver
noncomputable instance (f t seen e) : Decidable (tellE f t seen e) := Classical.propDecidable _
end Go.Proofs
/- Feed of a span: walked. -/

set_option linter.all false
set_option maxRecDepth 100000
namespace Go.Proofs
open Go Go.Ev
variable {H : Heap}
@[go_sem] theorem min_int' {β : Type} (k : IntKind) (a b : Int) (f : β) (c : AV → β) : mm2 false (.int k a) (.int k b) f c = c (.int k (min a b)) := by
  show bif' false (ltI a b fun z => bif' z (c (.int k b)) (c (.int k a))) (ltI b a fun z => bif' z (c (.int k b)) (c (.int k a))) = _
  rw [bif_false, ltI_eq, bif_eq]
  by_cases h : b < a
  · rw [decide_eq_true h, if_pos rfl, Int.min_eq_right (by omega)]
  · rw [decide_eq_false h, if_neg (by decide), Int.min_eq_left (by omega)]
end Go.Proofs
/- The laid-out code of the functions that are walked. Printed by a program. -/

set_option linter.all false
set_option maxRecDepth 100000
namespace Go.Proofs
open Go Go.Ev K
noncomputable def C110 := mkC Tryz.prog Tryz.f110 11
theorem C110ok : CCok Tryz.prog Tryz.f110 11 C110 := mkC_ok _
@[go_sem] theorem call110 (a H) : callC Tryz.prog 110 a H = .call 110 a := callC_ok (by kernel_rfl) a H
theorem R110ok : resKs Tryz.prog Tryz.f110.results.toList = some [(RK.tmp z.i)] := by kernel_rfl

noncomputable def C165 := mkC Tryz.prog Tryz.f165 18
theorem C165ok : CCok Tryz.prog Tryz.f165 18 C165 := mkC_ok _
@[go_sem] theorem call165 (a H) : callC Tryz.prog 165 a H = .call 165 a := callC_ok (by kernel_rfl) a H
theorem R165ok : resKs Tryz.prog Tryz.f165.results.toList = some [(RK.tmp z.i)] := by kernel_rfl

noncomputable def C166 := mkC Tryz.prog Tryz.f166 19
theorem C166ok : CCok Tryz.prog Tryz.f166 19 C166 := mkC_ok _
@[go_sem] theorem call166 (a H) : callC Tryz.prog 166 a H = .call 166 a := callC_ok (by kernel_rfl) a H
theorem R166ok : resKs Tryz.prog Tryz.f166.results.toList = some [(RK.tmp z.i)] := by kernel_rfl

end Go.Proofs
/- The laid-out code of the functions that are walked. Printed by a program. -/

set_option linter.all false
set_option maxRecDepth 100000
namespace Go.Proofs
open Go Go.Ev K
noncomputable def C49 := mkC Tryz.prog Tryz.f49 56
theorem C49ok : CCok Tryz.prog Tryz.f49 56 C49 := mkC_ok _
@[go_sem] theorem call49 (a H) : callC Tryz.prog 49 a H = .call 49 a := callC_ok (by kernel_rfl) a H
theorem R49ok : resKs Tryz.prog Tryz.f49.results.toList = some [(RK.cell z.o.i true 4), (RK.tmp z.i.o)] := by kernel_rfl

noncomputable def C78 := mkC Tryz.prog Tryz.f78 13
theorem C78ok : CCok Tryz.prog Tryz.f78 13 C78 := mkC_ok _
@[go_sem] theorem call78 (a H) : callC Tryz.prog 78 a H = .call 78 a := callC_ok (by kernel_rfl) a H
theorem R78ok : resKs Tryz.prog Tryz.f78.results.toList = some [(RK.cell z.o.i true 8), (RK.tmp z.i.o)] := by kernel_rfl

noncomputable def C26 := mkC Tryz.prog Tryz.f26 3
theorem C26ok : CCok Tryz.prog Tryz.f26 3 C26 := mkC_ok _
@[go_sem] theorem call26 (a H) : callC Tryz.prog 26 a H = .call 26 a := callC_ok (by kernel_rfl) a H
theorem R26ok : resKs Tryz.prog Tryz.f26.results.toList = some [(RK.tmp z)] := by kernel_rfl

@[go_sem] theorem call53 (a H) : callC Tryz.prog 53 a H = .call 53 a := callC_ok (by kernel_rfl) a H
noncomputable def C91 := mkC Tryz.prog Tryz.f91 23
theorem C91ok : CCok Tryz.prog Tryz.f91 23 C91 := mkC_ok _
@[go_sem] theorem call91 (a H) : callC Tryz.prog 91 a H = .call 91 a := callC_ok (by kernel_rfl) a H
theorem R91ok : resKs Tryz.prog Tryz.f91.results.toList = some [(RK.tmp z.o.i)] := by kernel_rfl

noncomputable def C21 := mkC Tryz.prog Tryz.f21 22
theorem C21ok : CCok Tryz.prog Tryz.f21 22 C21 := mkC_ok _
@[go_sem] theorem call21 (a H) : callC Tryz.prog 21 a H = .call 21 a := callC_ok (by kernel_rfl) a H
theorem R21ok : resKs Tryz.prog Tryz.f21.results.toList = some [(RK.tmp z.i)] := by kernel_rfl

noncomputable def C54 := mkC Tryz.prog Tryz.f54 11
theorem C54ok : CCok Tryz.prog Tryz.f54 11 C54 := mkC_ok _
@[go_sem] theorem call54 (a H) : callC Tryz.prog 54 a H = .call 54 a := callC_ok (by kernel_rfl) a H
theorem R54ok : resKs Tryz.prog Tryz.f54.results.toList = some [(RK.cell z.i true 16)] := by kernel_rfl

noncomputable def C101 := mkC Tryz.prog Tryz.f101 46
theorem C101ok : CCok Tryz.prog Tryz.f101 46 C101 := mkC_ok _
@[go_sem] theorem call101 (a H) : callC Tryz.prog 101 a H = .call 101 a := callC_ok (by kernel_rfl) a H
theorem R101ok : resKs Tryz.prog Tryz.f101.results.toList = some [(RK.tmp z.o.i)] := by kernel_rfl

noncomputable def C102 := mkC Tryz.prog Tryz.f102 40
theorem C102ok : CCok Tryz.prog Tryz.f102 40 C102 := mkC_ok _
@[go_sem] theorem call102 (a H) : callC Tryz.prog 102 a H = .call 102 a := callC_ok (by kernel_rfl) a H
theorem R102ok : resKs Tryz.prog Tryz.f102.results.toList = some [(RK.cell z.o.i true 4), (RK.tmp z.i.o)] := by kernel_rfl

@[go_sem] theorem call104 (a H) : callC Tryz.prog 104 a H = .call 104 a := callC_ok (by kernel_rfl) a H
noncomputable def C41 := mkC Tryz.prog Tryz.f41 17
theorem C41ok : CCok Tryz.prog Tryz.f41 17 C41 := mkC_ok _
@[go_sem] theorem call41 (a H) : callC Tryz.prog 41 a H = .call 41 a := callC_ok (by kernel_rfl) a H
theorem R41ok : resKs Tryz.prog Tryz.f41.results.toList = some [(RK.cell z.o.i true 8), (RK.tmp z.i.o)] := by kernel_rfl

noncomputable def C42 := mkC Tryz.prog Tryz.f42 11
theorem C42ok : CCok Tryz.prog Tryz.f42 11 C42 := mkC_ok _
@[go_sem] theorem call42 (a H) : callC Tryz.prog 42 a H = .call 42 a := callC_ok (by kernel_rfl) a H
theorem R42ok : resKs Tryz.prog Tryz.f42.results.toList = some [(RK.tmp z.o.i)] := by kernel_rfl

noncomputable def C136 := mkC Tryz.prog Tryz.f136 13
theorem C136ok : CCok Tryz.prog Tryz.f136 13 C136 := mkC_ok _
@[go_sem] theorem call136 (a H) : callC Tryz.prog 136 a H = .call 136 a := callC_ok (by kernel_rfl) a H
theorem R136ok : resKs Tryz.prog Tryz.f136.results.toList = some [(RK.tmp z.o.o)] := by kernel_rfl

noncomputable def C50 := mkC Tryz.prog Tryz.f50 38
theorem C50ok : CCok Tryz.prog Tryz.f50 38 C50 := mkC_ok _
@[go_sem] theorem call50 (a H) : callC Tryz.prog 50 a H = .call 50 a := callC_ok (by kernel_rfl) a H
theorem R50ok : resKs Tryz.prog Tryz.f50.results.toList = some [(RK.cell z.i true 8)] := by kernel_rfl

@[go_sem] theorem call116 (a H) : callC Tryz.prog 116 a H = .call 116 a := callC_ok (by kernel_rfl) a H
noncomputable def C150 := mkC Tryz.prog Tryz.f150 9
theorem C150ok : CCok Tryz.prog Tryz.f150 9 C150 := mkC_ok _
@[go_sem] theorem call150 (a H) : callC Tryz.prog 150 a H = .call 150 a := callC_ok (by kernel_rfl) a H
theorem R150ok : resKs Tryz.prog Tryz.f150.results.toList = some [(RK.tmp z.o.i)] := by kernel_rfl

noncomputable def C151 := mkC Tryz.prog Tryz.f151 6
theorem C151ok : CCok Tryz.prog Tryz.f151 6 C151 := mkC_ok _
@[go_sem] theorem call151 (a H) : callC Tryz.prog 151 a H = .call 151 a := callC_ok (by kernel_rfl) a H
theorem R151ok : resKs Tryz.prog Tryz.f151.results.toList = some [(RK.tmp z.i)] := by kernel_rfl

noncomputable def C152 := mkC Tryz.prog Tryz.f152 7
theorem C152ok : CCok Tryz.prog Tryz.f152 7 C152 := mkC_ok _
@[go_sem] theorem call152 (a H) : callC Tryz.prog 152 a H = .call 152 a := callC_ok (by kernel_rfl) a H
theorem R152ok : resKs Tryz.prog Tryz.f152.results.toList = some [] := by kernel_rfl

noncomputable def C153 := mkC Tryz.prog Tryz.f153 14
theorem C153ok : CCok Tryz.prog Tryz.f153 14 C153 := mkC_ok _
@[go_sem] theorem call153 (a H) : callC Tryz.prog 153 a H = .call 153 a := callC_ok (by kernel_rfl) a H
theorem R153ok : resKs Tryz.prog Tryz.f153.results.toList = some [] := by kernel_rfl

noncomputable def C155 := mkC Tryz.prog Tryz.f155 20
theorem C155ok : CCok Tryz.prog Tryz.f155 20 C155 := mkC_ok _
@[go_sem] theorem call155 (a H) : callC Tryz.prog 155 a H = .call 155 a := callC_ok (by kernel_rfl) a H
theorem R155ok : resKs Tryz.prog Tryz.f155.results.toList = some [(RK.tmp z.o.i)] := by kernel_rfl

noncomputable def C79 := mkC Tryz.prog Tryz.f79 19
theorem C79ok : CCok Tryz.prog Tryz.f79 19 C79 := mkC_ok _
@[go_sem] theorem call79 (a H) : callC Tryz.prog 79 a H = .call 79 a := callC_ok (by kernel_rfl) a H
theorem R79ok : resKs Tryz.prog Tryz.f79.results.toList = some [(RK.tmp z.i)] := by kernel_rfl

noncomputable def C156 := mkC Tryz.prog Tryz.f156 26
theorem C156ok : CCok Tryz.prog Tryz.f156 26 C156 := mkC_ok _
@[go_sem] theorem call156 (a H) : callC Tryz.prog 156 a H = .call 156 a := callC_ok (by kernel_rfl) a H
theorem R156ok : resKs Tryz.prog Tryz.f156.results.toList = some [] := by kernel_rfl

end Go.Proofs
/- The laid-out code of the functions that are walked. Printed by a program. -/

set_option linter.all false
set_option maxRecDepth 100000
namespace Go.Proofs
open Go Go.Ev K
noncomputable def C94 := mkC Tryz.prog Tryz.f94 19
theorem C94ok : CCok Tryz.prog Tryz.f94 19 C94 := mkC_ok _
@[go_sem] theorem call94 (a H) : callC Tryz.prog 94 a H = .call 94 a := callC_ok (by kernel_rfl) a H
theorem R94ok : resKs Tryz.prog Tryz.f94.results.toList = some [(RK.tmp z.o.i)] := by kernel_rfl

noncomputable def C192 := mkC Tryz.prog Tryz.f192 9
theorem C192ok : CCok Tryz.prog Tryz.f192 9 C192 := mkC_ok _
@[go_sem] theorem call192 (a H) : callC Tryz.prog 192 a H = .call 192 a := callC_ok (by kernel_rfl) a H
theorem R192ok : resKs Tryz.prog Tryz.f192.results.toList = some [] := by kernel_rfl

noncomputable def C193 := mkC Tryz.prog Tryz.f193 19
theorem C193ok : CCok Tryz.prog Tryz.f193 19 C193 := mkC_ok _
@[go_sem] theorem call193 (a H) : callC Tryz.prog 193 a H = .call 193 a := callC_ok (by kernel_rfl) a H
theorem R193ok : resKs Tryz.prog Tryz.f193.results.toList = some [(RK.tmp z.o.i)] := by kernel_rfl

noncomputable def C194 := mkC Tryz.prog Tryz.f194 18
theorem C194ok : CCok Tryz.prog Tryz.f194 18 C194 := mkC_ok _
@[go_sem] theorem call194 (a H) : callC Tryz.prog 194 a H = .call 194 a := callC_ok (by kernel_rfl) a H
theorem R194ok : resKs Tryz.prog Tryz.f194.results.toList = some [(RK.tmp z.i)] := by kernel_rfl

noncomputable def C195 := mkC Tryz.prog Tryz.f195 20
theorem C195ok : CCok Tryz.prog Tryz.f195 20 C195 := mkC_ok _
@[go_sem] theorem call195 (a H) : callC Tryz.prog 195 a H = .call 195 a := callC_ok (by kernel_rfl) a H
theorem R195ok : resKs Tryz.prog Tryz.f195.results.toList = some [(RK.tmp z.o.i)] := by kernel_rfl

noncomputable def C196 := mkC Tryz.prog Tryz.f196 148
theorem C196ok : CCok Tryz.prog Tryz.f196 148 C196 := mkC_ok _
@[go_sem] theorem call196 (a H) : callC Tryz.prog 196 a H = .call 196 a := callC_ok (by kernel_rfl) a H
theorem R196ok : resKs Tryz.prog Tryz.f196.results.toList = some [] := by kernel_rfl

noncomputable def C197 := mkC Tryz.prog Tryz.f197 8
theorem C197ok : CCok Tryz.prog Tryz.f197 8 C197 := mkC_ok _
@[go_sem] theorem call197 (a H) : callC Tryz.prog 197 a H = .call 197 a := callC_ok (by kernel_rfl) a H
theorem R197ok : resKs Tryz.prog Tryz.f197.results.toList = some [(RK.tmp z.i)] := by kernel_rfl

noncomputable def C198 := mkC Tryz.prog Tryz.f198 6
theorem C198ok : CCok Tryz.prog Tryz.f198 6 C198 := mkC_ok _
@[go_sem] theorem call198 (a H) : callC Tryz.prog 198 a H = .call 198 a := callC_ok (by kernel_rfl) a H
theorem R198ok : resKs Tryz.prog Tryz.f198.results.toList = some [(RK.tmp z.i)] := by kernel_rfl

noncomputable def C199 := mkC Tryz.prog Tryz.f199 42
theorem C199ok : CCok Tryz.prog Tryz.f199 42 C199 := mkC_ok _
@[go_sem] theorem call199 (a H) : callC Tryz.prog 199 a H = .call 199 a := callC_ok (by kernel_rfl) a H
theorem R199ok : resKs Tryz.prog Tryz.f199.results.toList = some [(RK.tmp z.o.i)] := by kernel_rfl

@[go_sem] theorem call200 (a H) : callC Tryz.prog 200 a H = .call 200 a := callC_ok (by kernel_rfl) a H
noncomputable def C201 := mkC Tryz.prog Tryz.f201 9
theorem C201ok : CCok Tryz.prog Tryz.f201 9 C201 := mkC_ok _
@[go_sem] theorem call201 (a H) : callC Tryz.prog 201 a H = .call 201 a := callC_ok (by kernel_rfl) a H
theorem R201ok : resKs Tryz.prog Tryz.f201.results.toList = some [(RK.tmp z.o.o)] := by kernel_rfl

noncomputable def C231 := mkC Tryz.prog Tryz.f231 63
theorem C231ok : CCok Tryz.prog Tryz.f231 63 C231 := mkC_ok _
@[go_sem] theorem call231 (a H) : callC Tryz.prog 231 a H = .call 231 a := callC_ok (by kernel_rfl) a H
theorem R231ok : resKs Tryz.prog Tryz.f231.results.toList = some [] := by kernel_rfl

noncomputable def C232 := mkC Tryz.prog Tryz.f232 6
theorem C232ok : CCok Tryz.prog Tryz.f232 6 C232 := mkC_ok _
@[go_sem] theorem call232 (a H) : callC Tryz.prog 232 a H = .call 232 a := callC_ok (by kernel_rfl) a H
theorem R232ok : resKs Tryz.prog Tryz.f232.results.toList = some [(RK.tmp z.i)] := by kernel_rfl

noncomputable def C233 := mkC Tryz.prog Tryz.f233 53
theorem C233ok : CCok Tryz.prog Tryz.f233 53 C233 := mkC_ok _
@[go_sem] theorem call233 (a H) : callC Tryz.prog 233 a H = .call 233 a := callC_ok (by kernel_rfl) a H
theorem R233ok : resKs Tryz.prog Tryz.f233.results.toList = some [] := by kernel_rfl

noncomputable def C242 := mkC Tryz.prog Tryz.f242 25
theorem C242ok : CCok Tryz.prog Tryz.f242 25 C242 := mkC_ok _
@[go_sem] theorem call242 (a H) : callC Tryz.prog 242 a H = .call 242 a := callC_ok (by kernel_rfl) a H
theorem R242ok : resKs Tryz.prog Tryz.f242.results.toList = some [(RK.tmp z.i)] := by kernel_rfl

noncomputable def C265 := mkC Tryz.prog Tryz.f265 53
theorem C265ok : CCok Tryz.prog Tryz.f265 53 C265 := mkC_ok _
@[go_sem] theorem call265 (a H) : callC Tryz.prog 265 a H = .call 265 a := callC_ok (by kernel_rfl) a H
theorem R265ok : resKs Tryz.prog Tryz.f265.results.toList = some [] := by kernel_rfl

end Go.Proofs
/- sums of bytes, what is wrapped: walked. -/

set_option linter.all false
set_option linter.all false
set_option maxRecDepth 100000
namespace Go.Proofs
open Go Go.Ev
variable {H : Heap}

def xorU (x y : Int) : Int := IntKind.u32.wrap ((BitVec.ofInt IntKind.u32.bits x ^^^ BitVec.ofInt IntKind.u32.bits y).toNat : Int)
theorem bin_xorU {β : Type} (ek : EK) (pk : Option (List LK)) (lit : Bool) (x y : Int) (f : β) (c : AV → β) : binV Tryz.prog ek pk lit .xor (.int .u32 x) (.int .u32 y) f c = c (.int .u32 (xorU x y)) := by rw [bin_xor]; rfl
def stepU (x : Int) (b : Nat) : Int := IntKind.u32.wrap (xorU x (IntKind.u32.wrap (b : Int)) * 16777619)
/-- a sum of bytes -/
def sumT (s : List Nat) : Int := s.foldl stepU 2166136261
theorem sumT_next {s : List Nat} {i b : Nat} (h : s[i]? = some b) : sumT (s.take (i + 1)) = IntKind.u32.wrap (xorU (sumT (s.take i)) (IntKind.u32.wrap (b : Int)) * 16777619) := by
  unfold sumT
  rw [List.take_add_one, h, List.foldl_append]
  rfl
theorem f166_ok {s : List Nat} (hl : s.length < 4611686018427387904) : FnOk Tryz.prog 166 [.str s] H fun r G => r = .int .u32 (sumT s) ∧ G = H := by
  refine FnOk.drop (R := fun r => r = .int .u32 (sumT s)) ?_ (by rintro v rfl ρ; rw [AV.ren])
  refine FnOk.of_WW Tryz.func166 rfl C166ok R166ok E0 good_E0 ?_
  simp only [go_sem, C166]
  refine LL.st good_E0 (fun i : Nat => s.length - i) (fun i => i ≤ s.length) (fun i => [(.z, .str s), ((.o (.o .z)), .int .u32 (sumT (s.take i))), ((.i (.i .z)), .int .i64 s.length), ((.o (.o (.o .z))), .int .i64 i)]) (fun _ => []) ?_ 0 (σ := []) (Wk.of rfl (by decide) (by simp only [go_sem]; first | done | rfl | trace_state) (by simp only [go_sem]; first | done | rfl | trace_state)) (Nat.zero_le _)
  rintro i hi
  by_cases hlt : i < s.length
  · have hget : s[i]? = some s[i] := List.getElem?_eq_getElem hlt
    generalize s[i] = b at hget
    have hci : (i : Int) < (s.length : Int) := by omega
    have hw := wrap_succ (n := i) (by omega)
    have hnew := sumT_next hget
    have X := fun x y f c => bin_xorU (β := R1) .no none false x y f c
    simp only [go_sem, hci, hget, ↓X, hw]
    exact ⟨i + 1, by show s.length - (i + 1) < s.length - i; omega, (show i + 1 ≤ s.length by omega), _, [], rfl, Wk.of rfl (by decide) (by simp only [go_sem, hnew, hw]; first | done | rfl | trace_state) (by simp only [go_sem])⟩
  · have hci : ¬ (i : Int) < (s.length : Int) := by omega
    simp only [go_sem, hci]
    rw [List.take_of_length_le (by omega)]
    exact ⟨rfl, _, rfl⟩
/-- a sum's bytes, the lowest first -/
def byU (x : Int) : Nat := (IntKind.u8.wrap x).toNat
theorem byU_eq (x : Int) : IntKind.u8.wrap x = (byU x : Int) := by
  unfold byU
  have : 0 ≤ IntKind.u8.wrap x := by show 0 ≤ x % _; exact Int.emod_nonneg _ (by decide)
  omega
theorem byU_le (x : Int) : byU x ≤ 255 := by
  have h := byU_eq x
  have : IntKind.u8.wrap x < 256 := by show x % (2 ^ 8 : Int) < 256; exact Int.emod_lt_of_pos x (by decide)
  omega
def byT (x : Int) : List Nat := [byU x, byU (x.fdiv 256), byU (x.fdiv 65536), byU (x.fdiv 16777216)]
theorem shr0 {β : Type} (ek : EK) (pk : Option (List LK)) (lit : Bool) (a : Int) (k : IntKind) (f : β) (c : AV → β) : binV Tryz.prog ek pk lit .shr (.int .u32 a) (.int k 0) f c = c (.int .u32 a) := by
  have h := bin_shr (P := Tryz.prog) ek pk lit .u32 a f c k 0
  have e : a.fdiv (2 ^ min 0 IntKind.u32.bits) = a := Int.fdiv_one a
  rw [e] at h
  exact h
theorem shr8 {β : Type} (ek : EK) (pk : Option (List LK)) (lit : Bool) (a : Int) (k : IntKind) (f : β) (c : AV → β) : binV Tryz.prog ek pk lit .shr (.int .u32 a) (.int k 8) f c = c (.int .u32 (a.fdiv 256)) := bin_shr (P := Tryz.prog) ek pk lit .u32 a f c k 8
theorem shr16 {β : Type} (ek : EK) (pk : Option (List LK)) (lit : Bool) (a : Int) (k : IntKind) (f : β) (c : AV → β) : binV Tryz.prog ek pk lit .shr (.int .u32 a) (.int k 16) f c = c (.int .u32 (a.fdiv 65536)) := bin_shr (P := Tryz.prog) ek pk lit .u32 a f c k 16
theorem shr24 {β : Type} (ek : EK) (pk : Option (List LK)) (lit : Bool) (a : Int) (k : IntKind) (f : β) (c : AV → β) : binV Tryz.prog ek pk lit .shr (.int .u32 a) (.int k 24) f c = c (.int .u32 (a.fdiv 16777216)) := bin_shr (P := Tryz.prog) ek pk lit .u32 a f c k 24
theorem readC_four {β : Type} (f : β) (a b c d : AV) (k : List AV → β) : readC f 1 [[a], [b], [c], [d]] 0 4 k = k [a, b, c, d] := rfl
theorem byT_all {β : Type} (x : Int) (f : β) (c : List Nat → β) : bytesC [.int .u8 (byU x), .int .u8 (byU (x.fdiv 256)), .int .u8 (byU (x.fdiv 65536)), .int .u8 (byU (x.fdiv 16777216))] f c = c (byT x) := by
  refine bytesC_all (l := byT x) (fun b hb => ?_) f c
  simp only [byT, List.mem_cons, List.not_mem_nil, or_false] at hb
  rcases hb with rfl | rfl | rfl | rfl <;> exact byU_le _
theorem f165_ok (x : Int) : FnOk Tryz.prog 165 [.int .u32 x] H fun r G => r = .str (byT x) ∧ G = H := by
  refine FnOk.drop (R := fun r => r = .str (byT x)) ?_ (by rintro v rfl ρ; rw [AV.ren])
  refine FnOk.of_WW Tryz.func165 rfl C165ok R165ok E0 good_E0 ?_
  simp only [go_sem, C165]
  refine LL.st good_E0 (S := Int × List Nat) (fun s => (4 - s.1).toNat) (fun s => s = (0, [0, 0, 0, 0]) ∨ s = (1, [byU x, 0, 0, 0]) ∨ s = (2, [byU x, byU (x.fdiv 256), 0, 0]) ∨ s = (3, [byU x, byU (x.fdiv 256), byU (x.fdiv 65536), 0]) ∨ s = (4, byT x))
    (fun s => [(.z, .int .u32 x), ((.o (.o .z)), .ptr (H.key 0) 0), ((.o (.i .z)), .int .i64 s.1)]) (fun s => [.row true 1 (s.2.map byteC)]) ?_ (0, [0, 0, 0, 0]) (σ := [0]) (Wk.of rfl (by decide) (by simp only [go_sem]; first | done | rfl | trace_state) (by simp only [go_sem, byteC, byteV, byT]; first | done | rfl | trace_state)) (.inl rfl)
  have w0 : IntKind.i64.wrap (8 * 0) = 0 := rfl
  have w1 : IntKind.i64.wrap (8 * 1) = 8 := rfl
  have w2 : IntKind.i64.wrap (8 * 2) = 16 := rfl
  have w3 : IntKind.i64.wrap (8 * 3) = 24 := rfl
  have b0 := byU_eq x
  have b1 := byU_eq (x.fdiv 256)
  have b2 := byU_eq (x.fdiv 65536)
  have b3 := byU_eq (x.fdiv 16777216)
  have s0 := fun l f c => shr0 (β := R1) .no none l x .i64 f c
  have s1 := fun l f c => shr8 (β := R1) .no none l x .i64 f c
  have s2 := fun l f c => shr16 (β := R1) .no none l x .i64 f c
  have s3 := fun l f c => shr24 (β := R1) .no none l x .i64 f c
  have rd := fun a b c d k => readC_four (β := R1) .fail a b c d k
  have al := fun c => byT_all (β := R1) x .fail c
  rintro _ (rfl | rfl | rfl | rfl | rfl)
  · simp only [go_sem, byteC, byteV, w0, ↓s0, b0]
    exact ⟨(1, [byU x, 0, 0, 0]), by show (4 - 1 : Int).toNat < (4 - 0 : Int).toNat; decide, .inr (.inl rfl), _, [0], rfl, Wk.of rfl (by decide) (by simp only [go_sem]; first | done | rfl | trace_state) (by simp only [go_sem, byteC, byteV, byT]; first | done | rfl | trace_state)⟩
  · simp only [go_sem, byteC, byteV, w1, ↓s1, b1]
    exact ⟨(2, [byU x, byU (x.fdiv 256), 0, 0]), by show (4 - 2 : Int).toNat < (4 - 1 : Int).toNat; decide, .inr (.inr (.inl rfl)), _, [0], rfl, Wk.of rfl (by decide) (by simp only [go_sem]; first | done | rfl | trace_state) (by simp only [go_sem, byteC, byteV, byT]; first | done | rfl | trace_state)⟩
  · simp only [go_sem, byteC, byteV, w2, ↓s2, b2]
    exact ⟨(3, [byU x, byU (x.fdiv 256), byU (x.fdiv 65536), 0]), by show (4 - 3 : Int).toNat < (4 - 2 : Int).toNat; decide, .inr (.inr (.inr (.inl rfl))), _, [0], rfl, Wk.of rfl (by decide) (by simp only [go_sem]; first | done | rfl | trace_state) (by simp only [go_sem, byteC, byteV, byT]; first | done | rfl | trace_state)⟩
  · simp only [go_sem, byteC, byteV, w3, ↓s3, b3]
    exact ⟨(4, byT x), by show (4 - 4 : Int).toNat < (4 - 3 : Int).toNat; decide, .inr (.inr (.inr (.inr rfl))), _, [0], rfl, Wk.of rfl (by decide) (by simp only [go_sem]; first | done | rfl | trace_state) (by simp only [go_sem, byteC, byteV, byT]; first | done | rfl | trace_state)⟩
  · simp only [go_sem, byteC, byteV, byT, rd, al]
    exact ⟨Nat.le_refl 4, _, rfl⟩
def wrapT (s : List Nat) : List Nat := byT (sumT (textT s)) ++ textT s
theorem textT_le {s : List Nat} (h : s.length < 1000000) : (textT s).length < 1000100 := by
  have := numT_small (n := s.length) (by omega)
  show (numT s.length ++ s).length < _
  rw [List.length_append]
  omega
theorem f110_ok {s : List Nat} (hs : s.length < 1000000) : FnOk Tryz.prog 110 [.str s] H fun r G => r = .str (wrapT s) ∧ G = H := by
  refine FnOk.drop (R := fun r => r = .str (wrapT s)) ?_ (by rintro v rfl ρ; rw [AV.ren])
  refine FnOk.of_WW Tryz.func110 rfl C110ok R110ok E0 good_E0 ?_
  have hl := textT_le hs
  have h4 : ∀ x, (byT x).length = 4 := fun x => rfl
  have hle : 4 + (textT s).length ≤ 9223372036854775807 := by omega
  simp only [go_sem, C110]
  refine CL.of (f114_ok (s := s) (by omega)) ?_
  rintro _ G' ⟨rfl, hG⟩; rw [hG]; clear hG
  simp only [go_sem]
  refine CL.of (f166_ok (s := textT s) (by omega)) ?_
  rintro _ G' ⟨rfl, hG⟩; rw [hG]; clear hG
  simp only [go_sem]
  refine CL.of (f165_ok _) ?_
  rintro _ G' ⟨rfl, hG⟩; rw [hG]; clear hG
  simp only [go_sem, h4, hle]
  exact ⟨rfl, _, rfl⟩
end Go.Proofs
/- shards of a node: which is the first that is so: walked. -/




set_option linter.all false
set_option linter.all false
set_option maxRecDepth 100000
namespace Go.Proofs
open Go Go.Ev
variable {H : Heap}

/-- the place of the first that is so; below 0: there is none -/
def idx {α : Type} (q : α → Bool) : List α → Nat → Int
  | [], _ => -1
  | s :: l, i => if q s = true then i else idx q l (i + 1)
theorem idx_next {α : Type} (q : α → Bool) {l : List α} {i : Nat} {s : α} (h : l[i]? = some s) : idx q (l.drop i) i = if q s = true then (i : Int) else idx q (l.drop (i + 1)) (i + 1) := by
  obtain ⟨h1, h2⟩ := List.getElem?_eq_some_iff.1 h
  rw [List.drop_eq_getElem_cons h1, h2]
  rfl
theorem idx_end {α : Type} (q : α → Bool) {l : List α} {i : Nat} (h : l.length ≤ i) : idx q (l.drop i) i = -1 := by
  rw [List.drop_eq_nil_of_le h]
  rfl
theorem f94_ok {v : AV} {l : List Sh} (hA : Arr H 8 v (l.map Sh.enc)) (hl : l.length ≤ 100000) {g : FuncId} {caps : List AV} (hcall : ∀ args H, callC Tryz.prog g args H = .call g args)
    (hcaps : ∀ top σ, AV.ren (rho H top σ) (.fn (.func g) [] caps) = .fn (.func g) [] caps) {q : Sh → Bool} (hg : ∀ s ∈ l, ∀ L, FnOk Tryz.prog g (.agg s.enc :: caps) (H.ext L) fun r G => r = .bool (q s) ∧ G = H.ext L) :
    FnOk Tryz.prog 94 [v, .fn (.func g) [] caps] H fun r G => r = .int .i64 (idx q l 0) ∧ G = H := by
  refine FnOk.assume fun hok => ?_
  refine FnOk.drop (R := fun r => r = .int .i64 (idx q l 0)) ?_ (by rintro v rfl ρ; rw [AV.ren])
  refine FnOk.of_WW Tryz.func94 rfl C94ok R94ok E0 good_E0 ?_
  have hlen := fun G => hA.len G; simp only [List.length_map] at hlen; have hren := hA.ren
  simp only [go_sem, C94, hlen]
  refine LL.st good_E0 (fun i : Nat => l.length - i) (fun i => i ≤ l.length ∧ idx q l 0 = idx q (l.drop i) i)
    (fun i => [(.z, v), ((.o .z), .fn (.func g) [] caps), ((.i (.i .z)), v), ((.o (.o (.o .z))), .int .i64 l.length), ((.i (.o (.o .z))), .int .i64 i)]) (fun i => []) ?_ 0 (σ := []) (Wk.of rfl (by decide) (by simp only [go_sem, hren, ↓hcaps]) (by simp only [go_sem])) ⟨Nat.zero_le _, rfl⟩
  rintro i ⟨hi, hno⟩
  by_cases hlt : i < l.length
  · obtain ⟨kk, r, ex', cap', wr, rows, hv, hrho, hgo, hrow⟩ := hA.at hok (j := i) (by rw [List.length_map]; exact hlt)
    simp only [List.length_map, List.getElem_map] at hv hrow
    have hget : l[i]? = some l[i] := List.getElem?_eq_getElem hlt
    generalize l[i] = c at hrow hget
    have hw := wrap_succ (n := i) (by omega)
    have hci : (i : Int) < (l.length : Int) := (by omega)
    have hsi : i + 1 ≤ l.length := (by omega)
    have hgc := hg c (List.mem_of_getElem? hget)
    have hnx := idx_next q hget
    simp only [Sh.enc] at hgc
    simp only [go_sem, hv, hci, hsi, hgo, hrow, hw, Sh.enc, hcall]
    refine CL.of (hgc _) ?_
    rintro _ G' ⟨rfl, hG⟩
    rw [hG]
    clear hG
    cases hq : q c
    · rw [hq, if_neg Bool.false_ne_true] at hnx
      simp only [go_sem, hw]
      exact ⟨i + 1, by show l.length - (i + 1) < l.length - i; omega, ⟨by omega, hno.trans hnx⟩, _, [], rfl, Wk.of rfl (by decide) (by simp only [go_sem, hren, hrho, hv, ↓hcaps, hw]; first | done | rfl | trace_state) (by simp only [go_sem])⟩
    · rw [hq, if_pos rfl] at hnx
      simp only [go_sem]
      exact ⟨by rw [hno, hnx], _, rfl⟩
  · have hci : ¬ (i : Int) < (l.length : Int) := by omega
    simp only [go_sem, hci]
    exact ⟨by rw [hno, idx_end q (by omega)], _, rfl⟩
structure Gn where
  id : Int
  ep : Int
def Gn.enc (g : Gn) : List AV := [.int .i64 g.id, .int .i64 g.ep]
/-- requests whose answers have no rows -/
def bareL (l : List Dn) : Prop := ∀ d ∈ l, d.an.rv = .nils ∧ d.an.rows = []
/-- a shard that isn't great -/
structure smallS (s : Sh) : Prop where
  b : bareL s.done
  c : s.cells.length < 1000
  e : s.evs.length < 1000
  d : s.done.length < 1000
/-- a node's shards, and what it gave away -/
structure isHd (G : Heap) (k : K) (lv gv : AV) (hs : List Sh) (gs : List Gn) : Prop where
  ok : G.ok
  row : G.get k = some (.row true 2 [[lv, gv]])
  l : Arr G 8 lv (hs.map Sh.enc)
  g : Arr G 2 gv (gs.map Gn.enc)
  each : ∀ s ∈ hs, s.ok G
  small : ∀ s ∈ hs, smallS s
  few : hs.length ≤ 8 ∧ gs.length ≤ 8
theorem isHd.ext {G : Heap} {k : K} {lv gv : AV} {hs : List Sh} {gs : List Gn} (h : isHd G k lv gv hs gs) (L : List Blk) : isHd (G.ext L) k lv gv hs gs :=
  ⟨Heap.ok_ext h.ok L, Heap.get_ext_old h.ok h.row L, h.l.ext L, h.g.ext L, fun s hs => (h.each s hs).ext L, h.small, h.few⟩
section
variable {G : Heap} {k : K} {lv gv : AV} {hs : List Sh} {gs : List Gn}
theorem f42_ok (h : isHd G k lv gv hs gs) {g : FuncId} {caps : List AV} (hcall : ∀ args H, callC Tryz.prog g args H = .call g args)
    (hcaps : ∀ top σ, AV.ren (rho G top σ) (.fn (.func g) [] caps) = .fn (.func g) [] caps) {q : Sh → Bool} (hg : ∀ s ∈ hs, ∀ L, FnOk Tryz.prog g (.agg s.enc :: caps) (G.ext L) fun r G' => r = .bool (q s) ∧ G' = G.ext L) :
    FnOk Tryz.prog 42 [.ptr k 0, .fn (.func g) [] caps] G fun r G' => r = .int .i64 (idx q hs 0) ∧ G' = G := by
  refine FnOk.drop (R := fun r => r = .int .i64 (idx q hs 0)) ?_ (by rintro v rfl ρ; rw [AV.ren])
  refine FnOk.of_WW Tryz.func42 rfl C42ok R42ok E0 good_E0 ?_
  have hk : ∀ L, (G.ext L).get k = _ := fun L => Heap.get_ext_old h.ok h.row L
  simp only [go_sem, C42, hk]
  have h64 := f94_ok h.l (by have := h.few.1; omega) hcall hcaps hg
  rw [← Heap.ext_nil G] at h64
  refine CL.of h64 ?_
  rintro _ G' ⟨rfl, hG⟩
  rw [hG]
  clear hG
  simp only [go_sem]
  exact ⟨_, rfl⟩
/-- a shard that does what is asked of a key -/
noncomputable def findQ (key : List Nat) (s : Sh) : Bool := if s.frz = true then false else decide (has s.fr s.to key)
theorem f136_ok {H : Heap} {c : K} {wr : Bool} {key : List Nat} (hk : H.get c = some (.row wr 1 [[.str key]])) (s : Sh) : FnOk Tryz.prog 136 [.agg s.enc, .ptr c 0] H fun r G => r = .bool (findQ key s) ∧ G = H := by
  refine FnOk.assume fun hok => ?_
  refine FnOk.drop (R := fun r => r = .bool (findQ key s)) ?_ (by rintro v rfl ρ; rw [AV.ren])
  refine FnOk.of_WW Tryz.func136 rfl C136ok R136ok E0 good_E0 ?_
  have hgo := Heap.get_ext_old hok hk
  obtain ⟨id, ep, fr, to, frz, cells, evs, done, cv, ev, dv⟩ := s
  cases frz
  · simp only [go_sem, C136, Sh.enc, hgo]
    refine CL.bool (f56_ok fr to key) (fun g => ?_) (fun g => ?_)
    · simp only [go_sem]
      exact ⟨(show AV.bool true = .bool (decide (has fr to key)) from bool_t g), _, rfl⟩
    · simp only [go_sem]
      exact ⟨(show AV.bool false = .bool (decide (has fr to key)) from bool_f g), _, rfl⟩
  · simp only [go_sem, C136, Sh.enc, hgo]
    exact ⟨rfl, _, rfl⟩
end
end Go.Proofs
/- a shard's bytes: walked. -/


set_option linter.all false
set_option linter.all false
set_option maxRecDepth 100000
namespace Go.Proofs
open Go Go.Ev
variable {H : Heap}

def evT (e : Evn) : List Nat := textT e.key ++ numT e.ver.toNat ++ textT e.val ++ [e.del.toNat]
noncomputable def dnT (d : Dn) : List Nat := numT d.ses.toNat ++ numT d.id.toNat ++ ansT d.an
end Go.Proofs
/- a shard as a copy: walked. -/

set_option linter.all false
set_option linter.all false
set_option maxRecDepth 100000
namespace Go.Proofs
open Go Go.Ev
variable {H : Heap}

/-- what is cloned -/
def AC (e : Nat) (H : Heap) (args : List AV) (xs : List (List AV)) : Prop := ∃ v, args = [v] ∧ Arr H e v xs ∧ xs.length < 100000 ∧ ∀ top σ, xs.map (AV.rens (rho H top σ)) = xs
noncomputable def ECl (f : FuncId) (args : List AV) (H : Heap) : RC :=
  match f with
  | 106 => ot (AC 5 H args) fun xs => .ok (zV (nilB (args.headD .nils)) H.nx 5 xs.length) (H.ext [zB (nilB (args.headD .nils)) 5 xs])
  | 107 => ot (AC 4 H args) fun xs => .ok (zV (nilB (args.headD .nils)) H.nx 4 xs.length) (H.ext [zB (nilB (args.headD .nils)) 4 xs])
  | 108 => ot (AC 6 H args) fun xs => .ok (zV (nilB (args.headD .nils)) H.nx 6 xs.length) (H.ext [zB (nilB (args.headD .nils)) 6 xs])
  | 109 => match args with | [.nils] => .ok .nils H | _ => .fail
  | _ => .fail
theorem good_ECl : Ev.Good Tryz.prog ECl := by
  intro f args H r G he φ w args' ha hw
  refine (?_ : FnOk Tryz.prog f args H fun v' G' => v' = r ∧ G' = G).one φ w args' ha hw
  unfold ECl at he
  split at he
  · obtain ⟨xs, ⟨v, rfl, h1, h2, h3⟩, hz⟩ := ot_ok he
    clear he
    cases hz
    exact clone_zd clo50 h1 (by omega) h3
  · obtain ⟨xs, ⟨v, rfl, h1, h2, h3⟩, hz⟩ := ot_ok he
    clear he
    cases hz
    exact clone_zd clo75 h1 (by omega) h3
  · obtain ⟨xs, ⟨v, rfl, h1, h2, h3⟩, hz⟩ := ot_ok he
    clear he
    cases hz
    exact clone_zd clo57 h1 (by omega) h3
  · split at he
    · cases he; exact clone_nil clo55
    · cases he
  · cases he
theorem ac_eq {e : Nat} (he : 0 < e) {H : Heap} {v : AV} {xs : List (List AV)} (hA : Arr H e v xs) (hl : xs.length < 100000) (hx : ∀ top σ, xs.map (AV.rens (rho H top σ)) = xs) (c : List (List AV) → RC) : ot (AC e H [v]) c = c xs :=
  ot_eq (p := AC e H [v]) (x := xs) ⟨v, rfl, hA, hl, hx⟩ (by
    rintro ys ⟨v', h1, h2, _⟩
    injection h1 with h1 _
    subst h1
    exact Arr.uniq h2 hA he) c
theorem ec77 {v : AV} {l : List Cell} (hA : Arr H 5 v (l.map Cell.enc)) (hl : l.length < 100000) (L : List Blk) : ECl 106 [v] (H.ext L) = .ok (zV (nilB v) (H.key L.length) 5 l.length) (H.ext (L ++ [zB (nilB v) 5 (l.map Cell.enc)])) := by
  show ot (AC 5 (H.ext L) [v]) _ = _
  rw [ac_eq (by decide) (hA.ext L) (by rw [List.length_map]; exact hl) (fun _ _ => Cell.map_rens _ _), List.length_map, Heap.nx_ext, Heap.ext_append]
  rfl
theorem ec78 {v : AV} {l : List Evn} (hA : Arr H 4 v (l.map Evn.enc)) (hl : l.length < 100000) (L : List Blk) : ECl 107 [v] (H.ext L) = .ok (zV (nilB v) (H.key L.length) 4 l.length) (H.ext (L ++ [zB (nilB v) 4 (l.map Evn.enc)])) := by
  show ot (AC 4 (H.ext L) [v]) _ = _
  rw [ac_eq (by decide) (hA.ext L) (by rw [List.length_map]; exact hl) (fun _ _ => Evn.map_rens _ _), List.length_map, Heap.nx_ext, Heap.ext_append]
  rfl
theorem bareL.rens {l : List Dn} (h : bareL l) (ρ : K → K) : (l.map Dn.enc).map (AV.rens ρ) = l.map Dn.enc := by
  rw [List.map_map]
  refine List.map_congr_left fun d hd => ?_
  simp only [Function.comp, Dn.enc, AV.rens, AV.ren, (h d hd).1]
theorem bareL.ok {l : List Dn} (h : bareL l) (H : Heap) : allOk H l := fun d hd => ⟨by rw [(h d hd).1, (h d hd).2]; exact .inl ⟨rfl, rfl⟩, by rw [(h d hd).2]; exact Nat.zero_le _⟩
theorem ec79 {v : AV} {l : List Dn} (hA : Arr H 6 v (l.map Dn.enc)) (hb : bareL l) (hl : l.length < 100000) (L : List Blk) : ECl 108 [v] (H.ext L) = .ok (zV (nilB v) (H.key L.length) 6 l.length) (H.ext (L ++ [zB (nilB v) 6 (l.map Dn.enc)])) := by
  show ot (AC 6 (H.ext L) [v]) _ = _
  rw [ac_eq (by decide) (hA.ext L) (by rw [List.length_map]; exact hl) (fun _ _ => hb.rens _), List.length_map, Heap.nx_ext, Heap.ext_append]
  rfl
theorem ec80 (H : Heap) : ECl 109 [.nils] H = .ok .nils H := rfl
/-- a shard whose lists are copies -/
noncomputable def Sh.cop (s : Sh) (k0 k1 k2 : K) : Sh := ⟨s.id, s.ep, s.fr, s.to, s.frz, s.cells, s.evs, s.done, zV (nilB s.cv) k0 5 s.cells.length, zV (nilB s.ev) k1 4 s.evs.length, zV (nilB s.dv) k2 6 s.done.length⟩
noncomputable def copB (s : Sh) : List Blk := [zB (nilB s.cv) 5 (s.cells.map Cell.enc), zB (nilB s.ev) 4 (s.evs.map Evn.enc), zB (nilB s.dv) 6 (s.done.map Dn.enc)]
theorem Sh.cop_ok {s : Sh} (h : s.ok H) {L : List Blk} {i j m : Nat} (h1 : L[i]? = some (zB (nilB s.cv) 5 (s.cells.map Cell.enc))) (h2 : L[j]? = some (zB (nilB s.ev) 4 (s.evs.map Evn.enc))) (h3 : L[m]? = some (zB (nilB s.dv) 6 (s.done.map Dn.enc))) : (s.cop (H.key i) (H.key j) (H.key m)).ok (H.ext L) :=
  ⟨arr_zV h1 (List.length_map ..), arr_zV h2 (List.length_map ..), arr_zV h3 (List.length_map ..), h.dok.ext L, h.cl, h.el, h.dl⟩
theorem set_same {α : Type} {l : List α} {k : Nat} {x : α} (h : l[k]? = some x) : l.set k x = l := by
  apply List.ext_getElem?
  intro j
  by_cases hj : k = j
  · subst hj
    rw [List.getElem?_set_self (List.getElem?_eq_some_iff.1 h).1, h]
  · rw [List.getElem?_set_ne hj]
theorem f50_ok {s : Sh} (h : s.ok H) (hsm : smallS s) :
    FnOk Tryz.prog 50 [.agg s.enc] H fun r G => r = .agg (s.cop (H.key 0) (H.key 1) (H.key 2)).enc ∧ G = H.ext (copB s) := by
  refine FnOk.dropW ?_
  refine FnOk.of_WW Tryz.func50 rfl C50ok R50ok ECl good_ECl ?_
  obtain ⟨hb, hc, he, hd⟩ := hsm
  have i77 := ec77 h.c (by omega)
  have i78 := ec78 h.e (by omega)
  have i79 := ec79 h.d hb (by omega)
  have drn := hb.rens
  simp only [go_sem, C50, Sh.enc, i77, i78, i79]
  refine LL.st good_ECl (fun i : Nat => s.done.length - i) (fun i => i ≤ s.done.length)
    (fun i => [((.o .z), .ptr (H.key 0) 0), ((.i .z), .ptr (H.key 1) 0), ((.i (.i (.o (.o .z)))), .int .i64 s.done.length), ((.o (.o (.i (.o .z)))), .int .i64 i)])
    (fun _ => .row true 8 [(s.cop (H.key 2) (H.key 3) (H.key 4)).enc] :: .row true 8 [[.int .i64 0, .int .i64 0, .str [], .str [], .bool false, .nils, .nils, .nils]] :: copB s) ?_ 0 (σ := [0, 1, 2, 3, 4]) (Wk.of rfl (by decide) (by simp only [go_sem]; first | done | rfl | trace_state) (by simp only [go_sem, copB, Sh.cop, Sh.enc, zV_ren, ↓zB_ren, Cell.map_rens, Evn.map_rens, drn, implies_true]; first | done | trace_state)) (Nat.zero_le _)
  rintro i hi
  by_cases hlt : i < s.done.length
  · have hci : (i : Int) < (s.done.length : Int) := by omega
    have hw := wrap_succ (n := i) (by omega)
    have hget : s.done[i]? = some s.done[i] := List.getElem?_eq_getElem hlt
    generalize s.done[i] = d at hget
    obtain ⟨hn1, hn2⟩ := hb d (List.mem_of_getElem? hget)
    have hrow : (s.done.map Dn.enc)[i]? = some [.int .i64 d.ses, .int .i64 d.id, .int .i64 d.an.code, .str d.an.val, .int .i64 d.an.ver, .nils] := by
      rw [List.getElem?_map, hget, ← hn1]; rfl
    have hset : (s.done.map Dn.enc).set i [.int .i64 d.ses, .int .i64 d.id, .int .i64 d.an.code, .str d.an.val, .int .i64 d.an.ver, .nils] = s.done.map Dn.enc := set_same hrow
    have hv := zV_pos (z := nilB s.dv) (k := H.key 4) (esz := 6) (n := s.done.length) (by omega)
    have hB := zB_pos (z := nilB s.dv) (esz := 6) (xs := s.done.map Dn.enc) (by rw [List.length_map]; omega)
    have hsi : i + 1 ≤ s.done.length := hlt
    simp only [go_sem, copB, Sh.cop, Sh.enc, hci, hw, hv, hB, hrow, hset, hsi, off6, ec80, Nat.zero_add]
    exact ⟨i + 1, by show s.done.length - (i + 1) < s.done.length - i; omega, hlt, _, [0, 1, 2, 3, 4], rfl, Wk.of rfl (by decide) (by simp only [go_sem]; first | done | rfl | trace_state) (by simp only [go_sem, copB, Sh.cop, Sh.enc, hv, hB, zV_ren, ↓zB_ren, Cell.map_rens, Evn.map_rens, drn, implies_true]; first | done | trace_state)⟩
  · have hci : ¬ (i : Int) < (s.done.length : Int) := by omega
    simp only [go_sem, copB, Sh.cop, Sh.enc, hci]
    exact ⟨_, [2, 3, 4], by simp only [zV_ren, go_sem], rfl, rfl, by decide, by simp only [go_sem, copB, zV_ren, ↓zB_ren, Cell.map_rens, Evn.map_rens, drn, implies_true]⟩
end Go.Proofs
/- a node's shards told: by number, by key, by where they begin: walked. -/

set_option linter.all false
set_option linter.all false
set_option maxRecDepth 100000
namespace Go.Proofs
open Go Go.Ev
variable {H : Heap}

theorem get_lit {bl : List Blk} {i : Nat} {x : Blk} (h : bl[i]? = some x) : (H.ext bl).get (H.key i) = some x := by
  rw [Heap.get_ext_key _ _ _ (List.getElem?_eq_some_iff.1 h).1]; exact h
theorem get_lit2 {bl L : List Blk} {i : Nat} {x : Blk} (h : bl[i]? = some x) : ((H.ext bl).ext L).get (H.key i) = some x := by
  rw [Heap.ext_append]
  refine get_lit ?_
  rw [List.getElem?_append_left (List.getElem?_eq_some_iff.1 h).1]
  exact h
theorem cap_lit {bl : List Blk} {i : Nat} (h : i < bl.length) (g : FuncId) (top : Nat) (σ : List Nat) : AV.ren (rho (H.ext bl) top σ) (.fn (.func g) [] [.ptr (H.key i) 0]) = .fn (.func g) [] [.ptr (H.key i) 0] := by
  have : rho (H.ext bl) top σ (H.key i) = H.key i := rho_old (by rw [Heap.nx_ext, Heap.toNat_key, Heap.toNat_key]; omega)
  simp only [AV.ren, AV.rens, this]
/-- no shard -/
def zS : List AV := [.int .i64 0, .int .i64 0, .str [], .str [], .bool false, .nils, .nils, .nils]
section
variable {G : Heap} {k : K} {lv gv : AV} {hs : List Sh} {gs : List Gn}
theorem f41_yes (h : isHd G k lv gv hs gs) {i : Nat} {s : Sh} (hi : hs[i]? = some s) : FnOk Tryz.prog 41 [.ptr k 0, .int .i64 i] G fun r G' => r = .tup [.agg (s.cop (G.key 0) (G.key 1) (G.key 2)).enc, .bool true] ∧ G' = G.ext (copB s) := by
  refine FnOk.dropW ?_
  refine FnOk.of_WW Tryz.func41 rfl C41ok R41ok E0 good_E0 ?_
  have hk : ∀ L, (G.ext L).get k = _ := fun L => Heap.get_ext_old h.ok h.row L
  obtain ⟨hlt, hs'⟩ := List.getElem?_eq_some_iff.1 hi
  obtain ⟨kk, r, ex', cap', wr, rows, hv, hrho, hgo, hrow⟩ := h.l.at h.ok (j := i) (by rw [List.length_map]; exact hlt)
  simp only [List.length_map, List.getElem_map, hs'] at hv hrow
  have hm := List.mem_of_getElem? hi
  have hsok := h.each s hm
  have hsm := h.small s hm
  have hci : ¬ (i : Int) < 0 := by omega
  have hsi : i + 1 ≤ hs.length := hlt
  have drn := bareL.rens hsm.b
  simp only [go_sem, C41, hci, hk, hv, hsi, hgo, hrow, Sh.enc]
  refine CL.of (f50_ok (hsok.ext _) hsm) ?_
  rintro _ _ ⟨rfl, rfl⟩
  simp only [go_sem, Sh.enc, Sh.cop, copB, Heap.key_ext]
  exact ⟨_, [1, 2, 3], by simp only [zV_ren, go_sem], rfl, rfl, by decide, by simp only [go_sem, zV_ren, ↓zB_ren, Cell.map_rens, Evn.map_rens, drn, implies_true]⟩
theorem f78_yes (h : isHd G k lv gv hs gs) (key : List Nat) {i : Nat} {s : Sh} (hx : idx (findQ key) hs 0 = i) (hi : hs[i]? = some s) : FnOk Tryz.prog 78 [.ptr k 0, .str key] G fun r G' => r = .tup [.agg (s.cop (G.key 0) (G.key 1) (G.key 2)).enc, .bool true] ∧ G' = G.ext (copB s) := by
  refine FnOk.dropW ?_
  refine FnOk.of_WW Tryz.func78 rfl C78ok R78ok E0 good_E0 ?_
  have hsm := h.small s (List.mem_of_getElem? hi)
  have drn := bareL.rens hsm.b
  simp only [go_sem, C78]
  refine CL.of (f42_ok (q := findQ key) (h.ext _) (fun _ _ => call136 ..) (fun top σ => by exact cap_lit (Nat.zero_lt_succ _) 136 top σ) (fun s _ L => by exact f136_ok (get_lit2 rfl) s)) ?_
  rintro _ G' ⟨rfl, hG⟩
  rw [hG, hx]
  clear hG
  simp only [go_sem]
  refine CL.of (f41_yes (h.ext _) hi) ?_
  rintro _ _ ⟨rfl, rfl⟩
  simp only [go_sem, Sh.enc, Sh.cop, copB, Heap.key_ext]
  exact ⟨_, [2, 3, 4], by simp only [zV_ren, go_sem], rfl, rfl, by decide, by simp only [go_sem, zV_ren, ↓zB_ren, Cell.map_rens, Evn.map_rens, drn, implies_true]⟩
end
end Go.Proofs
/- what bytes begin with is told in one way; pieces taken, as told beforehand. -/

set_option linter.all false
set_option linter.all false
set_option maxRecDepth 100000
namespace Go.Proofs
open Go Go.Ev
variable {H : Heap}

def okB (s : List Nat) (p : Bool × List Nat) : Prop := s = p.1.toNat :: p.2 ∧ p.2.length < 1000000
section
variable {k : K} {l : List Nat}
end
end Go.Proofs
/- a shard taken of its bytes: walked. -/

set_option linter.all false
set_option linter.all false
set_option maxRecDepth 100000
namespace Go.Proofs
open Go Go.Ev
variable {H : Heap}

section
variable {k : K} {l : List Nat} {c : Blk}
end
/-- what is left of a list's bytes -/
def flT {α : Type} (f : α → List Nat) (l : List α) : List Nat := (l.map f).flatten
/-- behind cells, behind events -/
noncomputable def r3 (s : Sh) : List Nat := []
noncomputable def r2 (s : Sh) : List Nat := numT s.done.length ++ flT dnT s.done
noncomputable def r1 (s : Sh) : List Nat := numT s.evs.length ++ (flT evT s.evs ++ r2 s)
end Go.Proofs
/- shards in order: how two are compared: walked. -/

set_option linter.all false
set_option linter.all false
set_option maxRecDepth 100000
namespace Go.Proofs
open Go Go.Ev
variable {H : Heap}

/-- two texts compared -/
noncomputable def cmpT (a b : List Nat) : Int := if ltS a b then -1 else if ¬ (ltS a b ∨ a = b) then 1 else 0
def cmpN (a b : Int) : Int := if a < b then -1 else if b < a then 1 else 0
theorem f232_ok (a : List Nat) : FnOk Tryz.prog 232 [.str a] H fun r G => r = .bool false ∧ G = H := by
  refine FnOk.drop (R := fun r => r = .bool false) ?_ (by rintro v rfl ρ; rw [AV.ren])
  refine FnOk.of_WW Tryz.func232 rfl C232ok R232ok E0 good_E0 ?_
  simp only [go_sem, C232]
  exact ⟨_, rfl⟩
theorem f198_ok (a : Int) : FnOk Tryz.prog 198 [.int .i64 a] H fun r G => r = .bool false ∧ G = H := by
  refine FnOk.drop (R := fun r => r = .bool false) ?_ (by rintro v rfl ρ; rw [AV.ren])
  refine FnOk.of_WW Tryz.func198 rfl C198ok R198ok E0 good_E0 ?_
  simp only [go_sem, C198]
  exact ⟨_, rfl⟩
theorem f195_ok (a b : List Nat) : FnOk Tryz.prog 195 [.str a, .str b] H fun r G => r = .int .i64 (cmpT a b) ∧ G = H := by
  refine FnOk.drop (R := fun r => r = .int .i64 (cmpT a b)) ?_ (by rintro v rfl ρ; rw [AV.ren])
  refine FnOk.of_WW Tryz.func195 rfl C195ok R195ok E0 good_E0 ?_
  simp only [go_sem, C195]
  refine CL.of (f232_ok a) ?_
  rintro _ G' ⟨rfl, hG⟩; rw [hG]; clear hG
  simp only [go_sem]
  refine CL.of (f232_ok b) ?_
  rintro _ G' ⟨rfl, hG⟩; rw [hG]; clear hG
  simp only [go_sem]
  unfold cmpT
  refine ⟨fun h => ⟨by rw [if_pos h], _, rfl⟩, fun h => ⟨fun g => ⟨by rw [if_neg h, if_pos g], _, rfl⟩, fun g => ⟨by rw [if_neg h, if_neg g], _, rfl⟩⟩⟩
theorem f155_ok (a b : Int) : FnOk Tryz.prog 155 [.int .i64 a, .int .i64 b] H fun r G => r = .int .i64 (cmpN a b) ∧ G = H := by
  refine FnOk.drop (R := fun r => r = .int .i64 (cmpN a b)) ?_ (by rintro v rfl ρ; rw [AV.ren])
  refine FnOk.of_WW Tryz.func155 rfl C155ok R155ok E0 good_E0 ?_
  simp only [go_sem, C155]
  refine CL.of (f198_ok a) ?_
  rintro _ G' ⟨rfl, hG⟩; rw [hG]; clear hG
  simp only [go_sem]
  refine CL.of (f198_ok b) ?_
  rintro _ G' ⟨rfl, hG⟩; rw [hG]; clear hG
  simp only [go_sem]
  unfold cmpN
  refine ⟨fun h => ⟨by rw [if_pos h], _, rfl⟩, fun h => ⟨fun g => ⟨by rw [if_neg h, if_pos g], _, rfl⟩, fun g => ⟨by rw [if_neg h, if_neg g], _, rfl⟩⟩⟩
theorem readC_1 {β : Type} (f : β) (rows : List (List AV)) (k : Nat) (c : List AV → β) : readC f 1 rows k 1 c = optC rows[k]? f c := by
  have h := readC_at0 f 1 rows k 1 c (by decide) (Nat.le_refl _)
  rw [Nat.mul_one] at h
  exact h
theorem f194_ok {k : K} {wr : Bool} {a b : Int} (hk : H.get k = some (.row wr 1 [[.int .i64 a], [.int .i64 b]])) (ex : Bool) (cap : Nat) : FnOk Tryz.prog 194 [.slice k 0 2 1 ex cap] H fun r G => r = .int .i64 (if ¬ a = 0 then a else b) ∧ G = H := by
  refine FnOk.assume fun hok => ?_
  refine FnOk.drop (R := fun r => r = .int .i64 (if ¬ a = 0 then a else b)) ?_ (by rintro v rfl ρ; rw [AV.ren])
  refine FnOk.of_WW Tryz.func194 rfl C194ok R194ok E0 good_E0 ?_
  have hgo := Heap.get_ext_old hok hk
  have hA : Arr H 1 (.slice k 0 2 1 ex cap) [[.int .i64 a], [.int .i64 b]] := .inr ⟨k, 0, ex, cap, rfl, hok k _ hk, fun _ => ⟨0, wr, _, rfl, hk, rfl⟩⟩
  have hren : ∀ top σ, rho H top σ k = k := fun _ _ => rho_old (hok k _ hk)
  have hw01 : IntKind.i64.wrap (0 + 1) = 1 := rfl
  have hw11 : IntKind.i64.wrap (1 + 1) = 2 := rfl
  simp only [go_sem, C194]
  refine LL.st good_E0 (fun i : Nat => 2 - i) (fun i => i ≤ 2 ∧ (0 < i → a = 0) ∧ (1 < i → b = 0))
    (fun i => [((.o (.o .z)), .int .i64 0), ((.i (.i .z)), .slice k 0 2 1 ex cap), ((.o (.o (.o .z))), .int .i64 2), ((.i (.o (.o .z))), .int .i64 i)]) (fun i => []) ?_ 0 (σ := []) (Wk.of rfl (by decide) (by simp only [go_sem, hren, hw01, hw11]; first | done | rfl | trace_state) (by simp only [go_sem])) ⟨Nat.zero_le _, fun h => absurd h (Nat.lt_irrefl _), fun h => absurd h (Nat.not_lt_zero _)⟩
  rintro i ⟨hi, h1, h2⟩
  have h3 : i = 0 ∨ i = 1 ∨ i = 2 := by omega
  rcases h3 with rfl | rfl | rfl
  · simp only [go_sem, hgo]
    refine ⟨fun h => ⟨by rw [if_pos h], _, rfl⟩, fun h => ?_⟩
    exact ⟨1, by show 2 - 1 < 2 - 0; decide, ⟨by decide, fun _ => Classical.not_not.1 h, fun h => absurd h (Nat.lt_irrefl _)⟩, _, [], rfl, Wk.of rfl (by decide) (by simp only [go_sem, hren, hw01, hw11]; first | done | rfl | trace_state) (by simp only [go_sem])⟩
  · have ha := h1 (by decide)
    simp only [go_sem, hgo, readC_1]
    refine ⟨fun h => ⟨by rw [if_neg (fun g => g ha)], _, rfl⟩, fun h => ?_⟩
    exact ⟨2, by show 2 - 2 < 2 - 1; decide, ⟨by decide, fun _ => ha, fun _ => Classical.not_not.1 h⟩, _, [], rfl, Wk.of rfl (by decide) (by simp only [go_sem, hren, hw01, hw11]; first | done | rfl | trace_state) (by simp only [go_sem])⟩
  · have ha := h1 (by decide)
    have hb := h2 (by decide)
    simp only [go_sem]
    exact ⟨by rw [if_neg (fun g => g ha), hb], _, rfl⟩
noncomputable def EQ (f : FuncId) (args : List AV) (H : Heap) : RC :=
  match f with
  | 195 => match args with | [.str a, .str b] => .ok (.int .i64 (cmpT a b)) H | _ => .fail
  | 155 => match args with | [.int .i64 a, .int .i64 b] => .ok (.int .i64 (cmpN a b)) H | _ => .fail
  | 194 => match args with
    | [.slice k 0 2 1 ex cap] => match H.get k with
      | some (.row wr 1 [[.int .i64 a], [.int .i64 b]]) => .ok (.int .i64 (if ¬ a = 0 then a else b)) H
      | _ => .fail
    | _ => .fail
  | _ => .fail
theorem good_EQ : Ev.Good Tryz.prog EQ := by
  intro f args H r G he φ w args' ha hw
  refine (?_ : FnOk Tryz.prog f args H fun v' G' => v' = r ∧ G' = G).one φ w args' ha hw
  unfold EQ at he
  split at he
  · split at he
    · cases he; exact f195_ok _ _
    · cases he
  · split at he
    · cases he; exact f155_ok _ _
    · cases he
  · split at he
    · split at he
      · rename_i hk
        cases he; exact f194_ok hk _ _
      · cases he
    · cases he
  · cases he
theorem eq88 (a b : List Nat) (H : Heap) : EQ 195 [.str a, .str b] H = .ok (.int .i64 (cmpT a b)) H := rfl
theorem eq49 (a b : Int) (H : Heap) : EQ 155 [.int .i64 a, .int .i64 b] H = .ok (.int .i64 (cmpN a b)) H := rfl
theorem eq87 {k : K} {wr ex : Bool} {cap : Nat} {a b : Int} {H : Heap} (hk : H.get k = some (.row wr 1 [[.int .i64 a], [.int .i64 b]])) : EQ 194 [.slice k 0 2 1 ex cap] H = .ok (.int .i64 (if ¬ a = 0 then a else b)) H := by
  show (match H.get k with | some (.row wr 1 [[.int .i64 a], [.int .i64 b]]) => .ok (.int .i64 (if ¬ a = 0 then a else b)) H | _ => .fail : RC) = _
  rw [hk]
  rfl
/-- two shards compared -/
noncomputable def cmpS (f g : List Nat) (i j : Int) : Int := if ¬ cmpT f g = 0 then cmpT f g else cmpN i j
theorem f193_ok (i e : Int) (f t : List Nat) (z : Bool) (c v d : AV) (i' e' : Int) (f' t' : List Nat) (z' : Bool) (c' v' d' : AV) :
    FnOk Tryz.prog 193 [.agg [.int .i64 i, .int .i64 e, .str f, .str t, .bool z, c, v, d], .agg [.int .i64 i', .int .i64 e', .str f', .str t', .bool z', c', v', d']] H fun r G => r = .int .i64 (cmpS f f' i i') ∧ G = H := by
  refine FnOk.drop (R := fun r => r = .int .i64 (cmpS f f' i i')) ?_ (by rintro v rfl ρ; rw [AV.ren])
  refine FnOk.of_WW Tryz.func193 rfl C193ok R193ok EQ good_EQ ?_
  have i87 := fun b0 b1 => eq87 (H := H.ext [b0, b1, .row true 1 [[.int .i64 (cmpT f f')], [.int .i64 (cmpN i i')]]]) (k := H.key 2) (wr := true) (ex := true) (cap := 2) (get_lit rfl)
  simp only [go_sem, C193, eq88, eq49, i87]
  exact ⟨rfl, _, rfl⟩
noncomputable def EM (f : FuncId) (args : List AV) (H : Heap) : RC :=
  match f with
  | 193 => match args with | [.agg [.int .i64 i, .int .i64 _, .str f, .str _, .bool _, _, _, _], .agg [.int .i64 i', .int .i64 _, .str f', .str _, .bool _, _, _, _]] => .ok (.int .i64 (cmpS f f' i i')) H | _ => .fail
  | _ => .fail
theorem good_EM : Ev.Good Tryz.prog EM := by
  intro f args H r G he φ w args' ha hw
  refine (?_ : FnOk Tryz.prog f args H fun v' G' => v' = r ∧ G' = G).one φ w args' ha hw
  unfold EM at he
  split at he
  · split at he
    · cases he; exact f193_ok _ _ _ _ _ _ _ _ _ _ _ _ _ _ _ _
    · cases he
  · cases he
theorem em86 (i e : Int) (f t : List Nat) (z : Bool) (c v d : AV) (i' e' : Int) (f' t' : List Nat) (z' : Bool) (c' v' d' : AV) (H : Heap) :
    EM 193 [.agg [.int .i64 i, .int .i64 e, .str f, .str t, .bool z, c, v, d], .agg [.int .i64 i', .int .i64 e', .str f', .str t', .bool z', c', v', d']] H = .ok (.int .i64 (cmpS f f' i i')) H := rfl
/-- shards in order: by where they begin, by number -/
def sorted2 : List Sh → Prop
  | [a, b] => ¬ cmpS b.fr a.fr b.id a.id < 0
  | l => l.length ≤ 1
theorem f265_one {v : AV} {n : Nat} (hn : n ≤ 1) (g : AV) : FnOk Tryz.prog 265 [v, .int .i64 0, .int .i64 n, g] H fun r G => r = .tup [] ∧ G = H := by
  refine FnOk.drop (R := fun r => r = .tup []) ?_ (by rintro v rfl ρ; simp only [AV.ren, AV.rens])
  refine FnOk.of_WW Tryz.func265 rfl C265ok R265ok E0 good_E0 ?_
  have hw01 : IntKind.i64.wrap (0 + 1) = 1 := rfl
  have hc : ¬ (1 : Int) < (n : Int) := by omega
  simp only [go_sem, C265, hw01]
  refine LL.st good_E0 (fun _ : Nat => 0) (fun _ => True) (fun _ => [((.i .z), .int .i64 n), ((.i (.o (.o .z))), .int .i64 1)]) (fun _ => []) ?_ 0 (σ := []) (Wk.of rfl (by decide) (by simp only [go_sem]; first | done | rfl | trace_state) (by simp only [go_sem])) trivial
  rintro _ _
  simp only [go_sem, hc]
  exact ⟨_, rfl⟩
theorem f265_two {v : AV} {a b : Sh} (hA : Arr H 8 v [a.enc, b.enc]) (hs : ¬ cmpS b.fr a.fr b.id a.id < 0) : FnOk Tryz.prog 265 [v, .int .i64 0, .int .i64 2, .fn (.func 193) [] []] H fun r G => r = .tup [] ∧ G = H := by
  refine FnOk.assume fun hok => ?_
  refine FnOk.drop (R := fun r => r = .tup []) ?_ (by rintro v rfl ρ; simp only [AV.ren, AV.rens])
  refine FnOk.of_WW Tryz.func265 rfl C265ok R265ok EM good_EM ?_
  have hw01 : IntKind.i64.wrap (0 + 1) = 1 := rfl
  have hw11 : IntKind.i64.wrap (1 + 1) = 2 := rfl
  have hw10 : IntKind.i64.wrap (1 - 1) = 0 := rfl
  have hren := hA.ren
  simp only [go_sem, C265, hw01]
  refine LL.st good_EM (fun i : Nat => 2 - i) (fun i => i = 1 ∨ i = 2) (fun i => [(.z, v), ((.o .z), .int .i64 0), ((.i .z), .int .i64 2), ((.o (.o .z)), .fn (.func 193) [] []), ((.i (.o (.o .z))), .int .i64 i)]) (fun _ => []) ?_ 1 (σ := []) (Wk.of rfl (by decide) (by simp only [go_sem, hren]; first | done | rfl | trace_state) (by simp only [go_sem])) (.inl rfl)
  rintro i (rfl | rfl)
  · simp only [go_sem]
    refine LL.st good_EM (fun _ : Nat => 0) (fun _ => True) (fun _ => [(.z, v), ((.o .z), .int .i64 0), ((.i .z), .int .i64 2), ((.o (.o .z)), .fn (.func 193) [] []), ((.i (.o (.o .z))), .int .i64 1), ((.o (.i (.o .z))), .int .i64 1)]) (fun _ => []) ?_ 0 (σ := []) (Wk.of rfl (by decide) (by simp only [go_sem, hren]; first | done | rfl | trace_state) (by simp only [go_sem])) trivial
    rintro _ _
    obtain ⟨kk, r, ex', cap', wr, rows, hv, hrho, hgo, hrow⟩ := hA.at hok (j := 1) (Nat.lt_succ_self 1)
    obtain ⟨kk', r', ex'', cap'', wr', rows', hv', hrho', hgo', hrow'⟩ := hA.at hok (j := 0) (Nat.zero_lt_succ _)
    rw [hv] at hv'
    injection hv' with e1 e2 e3 e4 e5 e6
    subst e1
    have e7 := Option.some.inj ((hgo []).symm.trans (hgo' []))
    injection e7 with e7 e8 e9
    subst e9
    have e2' : r' = r := by omega
    subst e2'
    simp only [List.getElem_cons_zero, List.getElem_cons_succ, Sh.enc, Nat.add_zero] at hrow hrow'
    have hs' := eq_false hs
    have h88 : r' * 8 + 8 = (r' + 1) * 8 := by omega
    simp only [go_sem, hv, hgo, hw10, h88, hrow, hrow', em86, hs', hw11]
    exact ⟨2, by show 2 - 2 < 2 - 1; decide, .inr rfl, _, [], rfl, Wk.of rfl (by decide) (by simp only [go_sem, hren, hv, hrho]; first | done | rfl | trace_state) (by simp only [go_sem])⟩
  · simp only [go_sem]
    exact ⟨_, rfl⟩
end Go.Proofs
/- shards in order: sorted already; one left out: walked. -/

set_option linter.all false
set_option linter.all false
set_option maxRecDepth 100000
namespace Go.Proofs
open Go Go.Ev
variable {H : Heap}

theorem f265_ok {v : AV} {hs : List Sh} (hA : Arr H 8 v (hs.map Sh.enc)) (hs2 : sorted2 hs) : FnOk Tryz.prog 265 [v, .int .i64 0, .int .i64 hs.length, .fn (.func 193) [] []] H fun r G => r = .tup [] ∧ G = H := by
  match hs, hA, hs2 with
  | [], _, _ => exact f265_one (n := 0) (by decide) _
  | [_], _, _ => exact f265_one (n := 1) (by decide) _
  | [a, b], hA, hs2 => exact f265_two hA hs2
  | _ :: _ :: _ :: _, _, h => exact absurd (show _ + 1 + 1 + 1 ≤ 1 from h) (by omega)
theorem sorted2_len {hs : List Sh} (h : sorted2 hs) : hs.length ≤ 2 := by
  match hs, h with
  | [], _ => exact Nat.zero_le _
  | [_], _ => exact Nat.le_succ 1
  | [_, _], _ => exact Nat.le_refl 2
  | _ :: _ :: _ :: _, h => exact absurd (show _ + 1 + 1 + 1 ≤ 1 from h) (by omega)
theorem f231_ok {v : AV} {hs : List Sh} (hA : Arr H 8 v (hs.map Sh.enc)) (hs2 : sorted2 hs) : FnOk Tryz.prog 231 [v, .int .i64 hs.length, .fn (.func 193) [] []] H fun r G => r = .tup [] ∧ G = H := by
  refine FnOk.drop (R := fun r => r = .tup []) ?_ (by rintro v rfl ρ; simp only [AV.ren, AV.rens])
  refine FnOk.of_WW Tryz.func231 rfl C231ok R231ok E0 good_E0 ?_
  have hren := hA.ren
  have hl := sorted2_len hs2
  have hc : ¬ (20 : Int) ≤ (hs.length : Int) := by omega
  have hc2 : ¬ (20 : Int) < (hs.length : Int) := by omega
  simp only [go_sem, C231]
  refine LL.st good_E0 (fun _ : Nat => 0) (fun _ => True) (fun _ => [(.z, v), ((.o .z), .int .i64 hs.length), ((.i .z), .fn (.func 193) [] []), ((.i (.i .z)), .int .i64 20), ((.o (.o (.o .z))), .int .i64 0), ((.i (.o (.o .z))), .int .i64 20)]) (fun _ => []) ?_ 0 (σ := []) (Wk.of rfl (by decide) (by simp only [go_sem, hren]; first | done | rfl | trace_state) (by simp only [go_sem])) trivial
  rintro _ _
  simp only [go_sem, hc]
  refine CL.of (f265_ok (hA.ext _) hs2) ?_
  rintro _ G' ⟨rfl, hG⟩; rw [hG]; clear hG
  simp only [go_sem]
  refine LL.st good_E0 (fun _ : Nat => 0) (fun _ => True) (fun _ => [((.o .z), .int .i64 hs.length), ((.i (.i .z)), .int .i64 20)]) (fun _ => []) ?_ 0 (σ := []) (Wk.of rfl (by decide) (by simp only [go_sem, hren]; first | done | rfl | trace_state) (by simp only [go_sem])) trivial
  rintro _ _
  simp only [go_sem, hc2]
  exact ⟨_, rfl⟩
theorem f192_ok {v : AV} {hs : List Sh} (hA : Arr H 8 v (hs.map Sh.enc)) (hs2 : sorted2 hs) : FnOk Tryz.prog 192 [v, .fn (.func 193) [] []] H fun r G => r = .tup [] ∧ G = H := by
  refine FnOk.drop (R := fun r => r = .tup []) ?_ (by rintro v rfl ρ; simp only [AV.ren, AV.rens])
  refine FnOk.of_WW Tryz.func192 rfl C192ok R192ok E0 good_E0 ?_
  have hlen := fun G => hA.len G
  simp only [List.length_map] at hlen
  simp only [go_sem, C192, hlen]
  refine CL.of (f231_ok (hA.ext _) hs2) ?_
  rintro _ G' ⟨rfl, hG⟩; rw [hG]; clear hG
  simp only [go_sem]
  exact ⟨_, rfl⟩
theorem f152_ok {G : Heap} {k : K} {lv gv : AV} {hs : List Sh} {gs : List Gn} (h : isHd G k lv gv hs gs) (hs2 : sorted2 hs) : FnOk Tryz.prog 152 [.ptr k 0] G fun r G' => r = .tup [] ∧ G' = G := by
  refine FnOk.drop (R := fun r => r = .tup []) ?_ (by rintro v rfl ρ; simp only [AV.ren, AV.rens])
  refine FnOk.of_WW Tryz.func152 rfl C152ok R152ok E0 good_E0 ?_
  have hk : ∀ L, (G.ext L).get k = _ := fun L => Heap.get_ext_old h.ok h.row L
  simp only [go_sem, C152, hk]
  refine CL.of (f192_ok (h.l.ext _) hs2) ?_
  rintro _ G' ⟨rfl, hG⟩; rw [hG]; clear hG
  simp only [go_sem]
  exact ⟨_, rfl⟩
/-- the only one is left out -/
theorem f199_only {G : Heap} {c : K} {s : Sh} (hok : G.ok) (hc : G.get c = some (.row true 8 [s.enc])) {g : FuncId} {caps : List AV} (hcall : ∀ args H, callC Tryz.prog g args H = .call g args)
    (hcaps : ∀ top σ, AV.ren (rho G top σ) (.fn (.func g) [] caps) = .fn (.func g) [] caps) {q : Sh → Bool} (hg : ∀ L, FnOk Tryz.prog g (.agg s.enc :: caps) (G.ext L) fun r G' => r = .bool (q s) ∧ G' = G.ext L) (hq : q s = true) :
    FnOk Tryz.prog 199 [.slice c 0 1 8 false 1, .fn (.func g) [] caps] G fun r G' => r = .slice c 0 0 8 false 1 ∧ G' = G.set c (.row true 8 [zS]) := by
  have hA : Arr G 8 (.slice c 0 1 8 false 1) ([s].map Sh.enc) := .inr ⟨c, 0, false, 1, rfl, hok c _ hc, fun _ => ⟨0, true, _, rfl, hc, rfl⟩⟩
  have hren : ∀ top σ, rho G top σ c = c := fun _ _ => rho_old (hok c _ hc)
  have hgo : ∀ L, (G.ext L).get c = _ := fun L => Heap.get_ext_old hok hc L
  refine FnOk.of_WW Tryz.func199 rfl C199ok R199ok E0 good_E0 ?_
  simp only [go_sem, C199]
  have h64 := f94_ok (q := q) hA (by show 1 ≤ 100000; decide) hcall hcaps (fun s' hs' L => by rw [List.mem_singleton.1 hs']; exact hg L)
  have hx : idx q [s] 0 = 0 := by unfold idx; rw [hq]; rfl
  rw [hx, ← Heap.ext_nil G] at h64
  have hw01 : IntKind.i64.wrap (0 + 1) = 1 := rfl
  refine CL.of h64 ?_
  rintro _ G' ⟨rfl, hG⟩
  rw [hG]
  clear hG
  simp only [go_sem, hw01]
  refine LL.st good_E0 (fun _ : Nat => 0) (fun _ => True) (fun _ => [(.z, .slice c 0 1 8 false 1), ((.o (.i .z)), .int .i64 0), ((.i (.i .z)), .int .i64 1)]) (fun _ => []) ?_ 0 (σ := []) (Wk.of rfl (by decide) (by simp only [go_sem, hren]; first | done | rfl | trace_state) (by simp only [go_sem])) trivial
  rintro _ _
  have hset := fun b (l : List Blk) (α : Type) (c' : Heap → α) => Heap.setC_here hok hc b l c'
  simp only [go_sem, hgo, hset]
  exact Heap.ext_nil _
end Go.Proofs
