/- the code's next cell, Put, an error's number, what an op is: walked. -/
import Derived.Test.YtglpihajimhekaaGreatDoorZ18
import Derived.Test.YtglpihajimhekaaGreatDoorProg
import Derived.KernelRfl
set_option linter.all false
namespace Go.Proofs
open Go.RowKit Go.Extern.Stop Go.Stop Go.Extern
theorem code1_nil (w : World) : Calls Tryz.prog 236 #[.nilIface] w fun e w' => e = .returned (.int .i64 0) ∧ Go.Ev.Grows w w' := by
  go_enter Tryz.func236, Tryz.ntmps236
  go_wp2_with (first | (go_at_call 113; refine (as_nil _ _).mono ?_; rintro e w' ⟨rfl, rfl⟩))
  go_ret
  exact ⟨rfl, Go.Ev.Grows.alloc _ _⟩
set_option maxHeartbeats 4000000 in
theorem code1_num (n : Int) (w : World) (hg : w.cell? ⟨0, 0, none⟩ = some (.iface 251 (.agg #[.pointer (some ⟨2, 68, none⟩)]))) : Calls Tryz.prog 236 #[.iface 125 (.int .i64 n)] w fun e w' => e = .returned (.int .i64 n) ∧ Go.Ev.Grows w w' := by
  have hlt : 0 < w.heap.size := by
    rcases Nat.eq_zero_or_pos w.heap.size with h0 | h
    · simp [World.cell?, h0] at hg
    · exact h
  have hgA : (w.alloc (.cells #[.int .i64 0] 125)).cell? ⟨0, 0, none⟩ = some (.iface 251 (.agg #[.pointer (some ⟨2, 68, none⟩)])) := by
    rw [World.cell?_alloc_lt _ _ ⟨0, 0, none⟩ hlt]; exact hg
  have htA : (w.alloc (.cells #[.int .i64 0] 125)).cell? ⟨w.heap.size, 0, none⟩ = some (.int .i64 0) := by simp
  have hfA : (w.alloc (.cells #[.int .i64 0] 125)).frozen? ⟨w.heap.size, 0, none⟩ = false := by simp
  go_enter Tryz.func236, Tryz.ntmps236
  go_wp2_with (first | (go_at_call 113; refine (as_hit n _ (.int .i64 0) _ hgA htA hfA).mono ?_; rintro e w' ⟨rfl, rfl⟩))
  go_ret
  refine ⟨rfl, ?_⟩
  exact ((((Go.Ev.Grows.alloc _ _).trans (Go.Ev.Grows.alloc _ _)).trans (Go.Ev.Grows.alloc _ _)).trans (Go.Ev.Grows.alloc _ _)).trans (Go.Ev.Grows.alloc _ _)
end Go.Proofs
set_option linter.all false
set_option maxRecDepth 100000
namespace Go.Proofs
open Go Go.Ev
variable {H : Heap}

theorem f236_ok (a : Option Int) : FnOk Tryz.prog 236 [errV a] H fun r G => r = .int .i64 (a.getD 0) ∧ G = H := by
  refine FnOk.of_calls fun φ w args' ha hw => ?_
  obtain ⟨v, rfl, h1⟩ := one_arg ha
  have e1 := errV_inv h1
  cases a with
  | none =>
    obtain rfl : v = .nilIface := e1
    refine (code1_nil w).mono ?_
    rintro e w' ⟨rfl, hg⟩
    exact ⟨⟨_, rfl, .int _ _⟩, hg⟩
  | some a =>
    obtain rfl : v = .iface 125 (.int .i64 a) := e1
    refine (code1_num a w (hw.rom 0 _ (List.mem_singleton.2 rfl)).1).mono ?_
    rintro e w' ⟨rfl, hg⟩
    exact ⟨⟨_, rfl, .int _ _⟩, hg⟩
theorem f295_ok {c : Cell} (h1 : 0 ≤ c.ver) (h2 : c.ver < 1000000000000) (v : List Nat) (d : Bool) : FnOk Tryz.prog 295 [.agg c.enc, .str v, .bool d] H fun r G => r = .tup [.agg (Cell.enc ⟨c.key, v, c.ver + 1, d, c.floor⟩), .agg (Evn.enc ⟨c.key, c.ver + 1, v, d⟩), .nili] ∧ G = H := by
  refine FnOk.drop (R := fun r => r = .tup [.agg (Cell.enc ⟨c.key, v, c.ver + 1, d, c.floor⟩), .agg (Evn.enc ⟨c.key, c.ver + 1, v, d⟩), .nili]) ?_ (by rintro v rfl ρ; simp only [AV.ren, AV.rens, Cell.rens, Evn.rens])
  refine FnOk.of_WW Tryz.func295 rfl C295ok R295ok E0 good_E0 ?_
  have hw : IntKind.i64.wrap (c.ver + 1) = c.ver + 1 := wrap_i64 (by omega) (by omega)
  have z1 := eq_false (show ¬ (1000000000000 : Int) ≤ c.ver by omega)
  simp only [go_sem, C295, Cell.enc, hw, z1]
  exact ⟨rfl, _, rfl⟩
theorem f276_ok {c : Cell} (h1 : 0 ≤ c.ver) (h2 : c.ver < 1000000000000) {v : List Nat} (hv : (v.length : Int) ≤ 12) : FnOk Tryz.prog 276 [.agg c.enc, .str v] H fun r G => r = .tup [.agg (Cell.enc ⟨c.key, v, c.ver + 1, false, c.floor⟩), .agg (Evn.enc ⟨c.key, c.ver + 1, v, false⟩), .nili] ∧ G = H := by
  refine FnOk.drop (R := fun r => r = .tup [.agg (Cell.enc ⟨c.key, v, c.ver + 1, false, c.floor⟩), .agg (Evn.enc ⟨c.key, c.ver + 1, v, false⟩), .nili]) ?_ (by rintro v rfl ρ; simp only [AV.ren, AV.rens, Cell.rens, Evn.rens])
  refine FnOk.of_WW Tryz.func276 rfl C276ok R276ok E0 good_E0 ?_
  have z1 := eq_false (show ¬ (12 : Int) < (v.length : Int) by omega)
  simp only [go_sem, C276, Cell.enc, z1]
  refine CL.of (f295_ok (c := c) h1 h2 v false) ?_
  rintro _ _ ⟨rfl, rfl⟩
  simp only [go_sem, Cell.enc, Evn.enc]
  exact ⟨_, rfl⟩
theorem f191_put (k v : List Nat) : FnOk Tryz.prog 191 [.agg [.int .i64 2, .str k, .str [], .str v, .int .i64 0, .nils]] H fun r G => r = .bool true ∧ G = H := by
  refine FnOk.drop (R := fun r => r = .bool true) ?_ (by rintro v rfl ρ; rw [AV.ren])
  refine FnOk.of_WW Tryz.func191 rfl C191ok R191ok E0 good_E0 ?_
  simp only [go_sem, C191]
  exact ⟨_, rfl⟩
theorem f191_get (k : List Nat) : FnOk Tryz.prog 191 [.agg [.int .i64 1, .str k, .str [], .str [], .int .i64 0, .nils]] H fun r G => r = .bool true ∧ G = H := by
  refine FnOk.drop (R := fun r => r = .bool true) ?_ (by rintro v rfl ρ; rw [AV.ren])
  refine FnOk.of_WW Tryz.func191 rfl C191ok R191ok E0 good_E0 ?_
  simp only [go_sem, C191]
  exact ⟨_, rfl⟩
theorem f140_put {k v : List Nat} (hk : isKey k) (hv : (v.length : Int) ≤ 12) : FnOk Tryz.prog 140 [.agg [.int .i64 2, .str k, .str [], .str v, .int .i64 0, .nils]] H fun r G => r = .bool true ∧ G = H := by
  refine FnOk.drop (R := fun r => r = .bool true) ?_ (by rintro v rfl ρ; rw [AV.ren])
  refine FnOk.of_WW Tryz.func140 rfl C140ok R140ok E0 good_E0 ?_
  have z2 := eq_true (show (v.length : Int) ≤ 40 by omega)
  simp only [go_sem, C140]
  refine CL.of (f191_put k v) ?_
  rintro _ _ ⟨rfl, rfl⟩
  simp only [go_sem]
  refine CL.bool (f127_ok k) (fun g => ?_) (fun g => absurd hk g)
  simp only [go_sem, z2]
  exact ⟨_, rfl⟩
theorem f140_get {k : List Nat} (hk : isKey k) : FnOk Tryz.prog 140 [.agg [.int .i64 1, .str k, .str [], .str [], .int .i64 0, .nils]] H fun r G => r = .bool true ∧ G = H := by
  refine FnOk.drop (R := fun r => r = .bool true) ?_ (by rintro v rfl ρ; rw [AV.ren])
  refine FnOk.of_WW Tryz.func140 rfl C140ok R140ok E0 good_E0 ?_
  simp only [go_sem, C140]
  refine CL.of (f191_get k) ?_
  rintro _ _ ⟨rfl, rfl⟩
  simp only [go_sem]
  refine CL.bool (f127_ok k) (fun g => ?_) (fun g => absurd hk g)
  simp only [go_sem]
  exact ⟨_, rfl⟩
theorem f83_put (k v : List Nat) : FnOk Tryz.prog 83 [.agg [.int .i64 2, .str k, .str [], .str v, .int .i64 0, .nils]] H fun r G => r = .bool true ∧ G = H := by
  refine FnOk.drop (R := fun r => r = .bool true) ?_ (by rintro v rfl ρ; rw [AV.ren])
  refine FnOk.of_WW Tryz.func83 rfl C83ok R83ok E0 good_E0 ?_
  simp only [go_sem, C83]
  exact ⟨_, rfl⟩
theorem f195_ok {s : Sh} (h : s.ok H) (k : List Nat) : FnOk Tryz.prog 195 [.agg s.enc, .str k] H fun r G => r = .agg (getA (getL s.cells k).1) ∧ G = H := by
  refine FnOk.drop (R := fun r => r = .agg (getA (getL s.cells k).1)) ?_ (by rintro v rfl ρ; simp only [AV.ren, getA_rens])
  refine FnOk.of_WW Tryz.func195 rfl C195ok R195ok E0 good_E0 ?_
  simp only [go_sem, C195, Sh.enc]
  refine CL.of (f130_ok (h.c.ext _) h.cl k) ?_
  rintro _ _ ⟨rfl, rfl⟩
  simp only [go_sem, Cell.enc]
  refine CL.bool (f234_ok (getL s.cells k).1) (fun g => ?_) (fun g => ?_)
  · simp only [go_sem, Cell.enc]
    exact ⟨by rw [getA, if_pos g], _, rfl⟩
  · simp only [go_sem, Cell.enc]
    exact ⟨by rw [getA, if_neg g], _, rfl⟩
end Go.Proofs
/- the code's Add, change, one: walked. -/

set_option linter.all false
set_option linter.all false
set_option maxRecDepth 100000
namespace Go.Proofs
open Go Go.Ev
variable {H : Heap}

def A81 (H : Heap) (args : List AV) (l : List Evn) : Prop := ∃ k, args = [outV k 4 l.length] ∧ Arr H 4 (outV k 4 l.length) (l.map Evn.enc) ∧ l.length < 100000
noncomputable def EA (f : FuncId) (args : List AV) (H : Heap) : RC :=
  match f with
  | 115 => ot (A81 H args) fun l => .ok (outV H.nx 4 l.length) (H.ext [outB 4 (l.map Evn.enc)])
  | 240 => ot (A50 H args) fun q => .ok (.tup [outV (H.key 1) 4 (q.1.drop (q.1.length - 24)).length, outV (H.key 0) 5 q.2.length]) (H.ext [outB 5 ((keepC (q.1.take (q.1.length - 24)) q.2).map Cell.enc), outB 4 ((q.1.drop (q.1.length - 24)).map Evn.enc)])
  | _ => .fail
theorem outV_null {k : K} {e n : Nat} (h : n = 0) : outV k e n = .nils := by subst h; rfl
theorem good_EA : Ev.Good Tryz.prog EA := by
  intro f args H r G he φ w args' ha hw
  refine (?_ : FnOk Tryz.prog f args H fun v' G' => v' = r ∧ G' = G).one φ w args' ha hw
  unfold EA at he
  split at he
  · obtain ⟨l, ⟨k, rfl, h1, h2⟩, hz⟩ := ot_ok he
    clear he
    cases hz
    exact clone_n clo75 (List.length_map ..) outV_null h1 (by omega) (fun _ _ => Evn.map_rens _ _)
  · obtain ⟨q, ⟨k, k', rfl, h1, h2, h3, h4⟩, hz⟩ := ot_ok he
    clear he
    cases hz
    exact f240_ok rfl rfl h1 h2 h3 h4
  · cases he
theorem e81 {k : K} {l : List Evn} (hA : Arr H 4 (outV k 4 l.length) (l.map Evn.enc)) (hl : l.length < 100000) (L : List Blk) : EA 115 [outV k 4 l.length] (H.ext L) = .ok (outV (H.key L.length) 4 l.length) (H.ext (L ++ [outB 4 (l.map Evn.enc)])) := by
  show ot (A81 (H.ext L) [outV k 4 l.length]) (fun l => .ok (outV (H.ext L).nx 4 l.length) ((H.ext L).ext [outB 4 (l.map Evn.enc)])) = _
  rw [ot_eq (p := A81 (H.ext L) [outV k 4 l.length]) (x := l) ⟨k, rfl, hA.ext L, hl⟩, Heap.nx_ext, Heap.ext_append]
  rintro l' ⟨k', h1, h2, _⟩
  injection h1 with h1
  rw [← h1] at h2
  exact (evs_uniq (hA.ext L) h2).symm
theorem e37 {k k' : K} {xs : List Evn} {cs : List Cell} {L : List Blk} (h1 : Arr (H.ext L) 4 (outV k 4 xs.length) (xs.map Evn.enc)) (h2 : Arr (H.ext L) 5 (outV k' 5 cs.length) (cs.map Cell.enc)) (hx : xs.length < 100000) (hc : cs.length < 100000) :
    EA 240 [outV k 4 xs.length, outV k' 5 cs.length, .int .i64 24] (H.ext L) = .ok (.tup [outV (H.key (L.length + 1)) 4 (xs.drop (xs.length - 24)).length, outV (H.key L.length) 5 cs.length]) (H.ext (L ++ [outB 5 ((keepC (xs.take (xs.length - 24)) cs).map Cell.enc), outB 4 ((xs.drop (xs.length - 24)).map Evn.enc)])) := by
  show ot (A50 (H.ext L) [outV k 4 xs.length, outV k' 5 cs.length, .int .i64 24]) (fun q => .ok (.tup [outV ((H.ext L).key 1) 4 (q.1.drop (q.1.length - 24)).length, outV ((H.ext L).key 0) 5 q.2.length]) ((H.ext L).ext [outB 5 ((keepC (q.1.take (q.1.length - 24)) q.2).map Cell.enc), outB 4 ((q.1.drop (q.1.length - 24)).map Evn.enc)])) = _
  rw [ot_eq (p := A50 (H.ext L) [outV k 4 xs.length, outV k' 5 cs.length, .int .i64 24]) (x := (xs, cs)) ⟨_, _, rfl, h1, h2, hx, hc⟩, Heap.key_ext, Heap.key_ext, Heap.ext_append]
  · rfl
  rintro ⟨xs', ys'⟩ ⟨k, k', h3, h4, h5, _, _⟩
  injection h3 with h3 h6
  injection h6 with h6 _
  rw [← h3] at h4
  rw [← h6] at h5
  rw [evs_uniq h1 h4, cells_uniq h2 h5]
theorem f278_ok {k k' : K} {l : List Evn} {cs : List Cell} (hA : Arr H 4 (outV k 4 l.length) (l.map Evn.enc)) (hB : Arr H 5 (outV k' 5 cs.length) (cs.map Cell.enc)) (hl : l.length < 10000) (hc : cs.length < 10000) (e : Evn) :
    FnOk Tryz.prog 278 [outV k 4 l.length, outV k' 5 cs.length, .agg e.enc, .int .i64 24] H fun r G => r = .tup [outV (H.key 1) 4 ((l ++ [e]).drop ((l ++ [e]).length - 24)).length, outV (H.key 0) 5 cs.length] ∧ G = H.ext [outB 5 ((keepC ((l ++ [e]).take ((l ++ [e]).length - 24)) cs).map Cell.enc), outB 4 (((l ++ [e]).drop ((l ++ [e]).length - 24)).map Evn.enc)] := by
  refine FnOk.assume fun hok => ?_
  refine FnOk.dropW ?_
  obtain ⟨es, hes⟩ : ∃ es, es = l ++ [e] := ⟨_, rfl⟩
  rw [← hes]
  refine FnOk.of_WW Tryz.func278 rfl C278ok R278ok EA good_EA ?_
  have i81 := e81 hA (by omega)
  have hel : es.length = l.length + 1 := by rw [hes, List.length_append]; rfl
  simp only [go_sem, C278, Evn.enc, i81, ↓appR_hide]
  rw [appQ_out (i := 2) (j := 1) rfl (List.length_map ..) rfl (okBig_le (by omega) (by decide))]
  rw [← hel, show outB 4 (l.map Evn.enc ++ [[.str e.key, .int .i64 e.ver, .str e.val, .bool e.del]]) = outB 4 (es.map Evn.enc) by rw [hes, List.map_append]; rfl]
  have i37 := fun b0 b1 b2 => e37 (H := H) (k := H.key 3) (k' := k') (xs := es) (cs := cs) (L := [b0, b1, b2, outB 4 (es.map Evn.enc)]) (arr_outV (i := 3) rfl (List.length_map ..)) (hB.ext _) (by omega) (by omega)
  simp only [go_sem, i37]
  exact ⟨_, [4, 5], by simp only [outV_ren', go_sem], rfl, rfl, by decide, by simp only [go_sem, ↓outB_ren', Cell.map_rens, Evn.map_rens, implies_true]⟩
theorem frV_pos {v : AV} {k : K} {e n : Nat} (h : 0 < n) : frV v k e n = outV k e n := by
  unfold frV
  split
  · rfl
  · exact (outV_pos h).symm
theorem frL_pos {v : AV} {e : Nat} {xs : List (List AV)} (h : 0 < xs.length) : frL v e xs = [outB e xs] := by
  cases xs with
  | nil => exact absurd h (Nat.lt_irrefl 0)
  | cons x xs => unfold frL; split <;> rfl
theorem withL_pos (c : Cell) : ∀ l : List Cell, 0 < (withL l c).length
  | [] => by simp [withL]
  | d :: l => by
    unfold withL
    split
    · simp
    · split <;> simp
theorem f279_at {v : AV} {l : List Cell} (hA : Arr H 5 v (l.map Cell.enc)) (hl : l.length < 10000) {c : Cell} (hc : cellIs c) :
    FnOk Tryz.prog 279 [v, .agg c.enc] H fun r G => r = outV H.nx 5 (withL l c).length ∧ G = H.ext [outB 5 ((withL l c).map Cell.enc)] := by
  refine (f279_ok hA (by omega) c).mono ?_
  rintro r G ⟨rfl, rfl⟩
  have hp := withL_pos c l
  rw [withC, if_pos hc, frV_pos hp, frL_pos (by rw [List.length_map]; exact hp)]
  exact ⟨rfl, rfl⟩
def A139 (H : Heap) (args : List AV) (q : List Cell × Cell) : Prop := ∃ v, args = [v, .agg q.2.enc] ∧ Arr H 5 v (q.1.map Cell.enc) ∧ q.1.length < 10000 ∧ cellIs q.2
def A138 (H : Heap) (args : List AV) (q : List Evn × List Cell × Evn) : Prop := ∃ k k', args = [outV k 4 q.1.length, outV k' 5 q.2.1.length, .agg q.2.2.enc, .int .i64 24] ∧ Arr H 4 (outV k 4 q.1.length) (q.1.map Evn.enc) ∧ Arr H 5 (outV k' 5 q.2.1.length) (q.2.1.map Cell.enc) ∧ q.1.length < 10000 ∧ q.2.1.length < 10000
noncomputable def EG (f : FuncId) (args : List AV) (H : Heap) : RC :=
  match f with
  | 279 => ot (A139 H args) fun q => .ok (outV H.nx 5 (withL q.1 q.2).length) (H.ext [outB 5 ((withL q.1 q.2).map Cell.enc)])
  | 278 => ot (A138 H args) fun q => .ok (.tup [outV (H.key 1) 4 ((q.1 ++ [q.2.2]).drop ((q.1 ++ [q.2.2]).length - 24)).length, outV (H.key 0) 5 q.2.1.length]) (H.ext [outB 5 ((keepC ((q.1 ++ [q.2.2]).take ((q.1 ++ [q.2.2]).length - 24)) q.2.1).map Cell.enc), outB 4 (((q.1 ++ [q.2.2]).drop ((q.1 ++ [q.2.2]).length - 24)).map Evn.enc)])
  | 236 => match args with | [.nili] => .ok (.int .i64 0) H | _ => .fail
  | _ => .fail
theorem good_EG : Ev.Good Tryz.prog EG := by
  intro f args H r G he φ w args' ha hw
  refine (?_ : FnOk Tryz.prog f args H fun v' G' => v' = r ∧ G' = G).one φ w args' ha hw
  unfold EG at he
  split at he
  · obtain ⟨q, ⟨v, rfl, h1, h2, h3⟩, hz⟩ := ot_ok he
    clear he
    cases hz
    exact f279_at h1 h2 h3
  · obtain ⟨q, ⟨k, k', rfl, h1, h2, h3, h4⟩, hz⟩ := ot_ok he
    clear he
    cases hz
    exact f278_ok h1 h2 h3 h4 _
  · split at he
    · cases he; exact f236_ok none
    · cases he
  · cases he
theorem e139 {v : AV} {l : List Cell} (hA : Arr H 5 v (l.map Cell.enc)) (hl : l.length < 10000) {c : Cell} (hc : cellIs c) (L : List Blk) :
    EG 279 [v, .agg [.str c.key, .str c.value, .int .i64 c.ver, .bool c.del, .int .i64 c.floor]] (H.ext L) = .ok (outV (H.key L.length) 5 (withL l c).length) (H.ext (L ++ [outB 5 ((withL l c).map Cell.enc)])) := by
  show ot (A139 (H.ext L) [v, .agg c.enc]) (fun q => .ok (outV (H.ext L).nx 5 (withL q.1 q.2).length) ((H.ext L).ext [outB 5 ((withL q.1 q.2).map Cell.enc)])) = _
  rw [ot_eq (p := A139 (H.ext L) [v, .agg c.enc]) (x := (l, c)) ⟨v, rfl, hA.ext L, hl, hc⟩, Heap.nx_ext, Heap.ext_append]
  rintro ⟨l', c'⟩ ⟨v', h1, h2, _⟩
  injection h1 with h1 h3
  injection h3 with h3 _
  injection h3 with h3
  dsimp only at h1 h2 h3
  subst h1
  rw [cells_uniq (hA.ext L) h2, Cell.enc_one h3]
theorem e138 {k k' : K} {l : List Evn} {cs : List Cell} {L : List Blk} (hA : Arr (H.ext L) 4 (outV k 4 l.length) (l.map Evn.enc)) (hB : Arr (H.ext L) 5 (outV k' 5 cs.length) (cs.map Cell.enc)) (hl : l.length < 10000) (hc : cs.length < 10000) (e : Evn) :
    EG 278 [outV k 4 l.length, outV k' 5 cs.length, .agg [.str e.key, .int .i64 e.ver, .str e.val, .bool e.del], .int .i64 24] (H.ext L) = .ok (.tup [outV (H.key (L.length + 1)) 4 ((l ++ [e]).drop ((l ++ [e]).length - 24)).length, outV (H.key L.length) 5 cs.length]) (H.ext (L ++ [outB 5 ((keepC ((l ++ [e]).take ((l ++ [e]).length - 24)) cs).map Cell.enc), outB 4 (((l ++ [e]).drop ((l ++ [e]).length - 24)).map Evn.enc)])) := by
  show ot (A138 (H.ext L) [outV k 4 l.length, outV k' 5 cs.length, .agg e.enc, .int .i64 24]) (fun q => .ok (.tup [outV ((H.ext L).key 1) 4 ((q.1 ++ [q.2.2]).drop ((q.1 ++ [q.2.2]).length - 24)).length, outV ((H.ext L).key 0) 5 q.2.1.length]) ((H.ext L).ext [outB 5 ((keepC ((q.1 ++ [q.2.2]).take ((q.1 ++ [q.2.2]).length - 24)) q.2.1).map Cell.enc), outB 4 (((q.1 ++ [q.2.2]).drop ((q.1 ++ [q.2.2]).length - 24)).map Evn.enc)])) = _
  rw [ot_eq (p := A138 (H.ext L) [outV k 4 l.length, outV k' 5 cs.length, .agg e.enc, .int .i64 24]) (x := (l, cs, e)) ⟨_, _, rfl, hA, hB, hl, hc⟩, Heap.key_ext, Heap.key_ext, Heap.ext_append]
  · rfl
  rintro ⟨l', cs', e'⟩ ⟨k, k', h1, h2, h3, _⟩
  injection h1 with h1 h4
  injection h4 with h4 h5
  injection h5 with h5 _
  injection h5 with h5
  dsimp only at h1 h2 h3 h4 h5
  rw [← h1] at h2
  rw [← h4] at h3
  rw [evs_uniq hA h2, cells_uniq hB h3, Evn.enc_one h5]
theorem e109 (H : Heap) : EG 236 [.nili] H = .ok (.int .i64 0) H := rfl
theorem f235_put {s : Sh} (h : s.ok H) {ke : K} (hev : s.ev = outV ke 4 s.evs.length) (hel : s.evs.length < 9000) (hcl : s.cells.length < 9000) {k v : List Nat} (hk : isKey k) (hv : (v.length : Int) ≤ 12) (hI : isHist s.evs s.cells) (hm : (getL s.cells k).1.ver < 1000000000000) :
    FnOk Tryz.prog 235 [.agg s.enc, .str k, .str v, .bool false] H fun r G => r = .tup [.agg (addS s (nextC s.cells k v false) (nextE s.cells k v false) (H.key 0) (H.key 1)).enc, .agg (nextC s.cells k v false).enc, .nili] ∧ G = H.ext (addB s (nextC s.cells k v false) (nextE s.cells k v false)) := by
  refine FnOk.dropW ?_
  refine FnOk.of_WW Tryz.func235 rfl C235ok R235ok EG good_EG ?_
  obtain ⟨c1, c2, c3, c4, _⟩ := cell_of hI k
  have hput := hist_put hI hk hv (d := false) (fun h => by cases h) hm
  have hw : refW s.cells (nextC s.cells k v false) = withL s.cells (nextC s.cells k v false) := refW_eq hI.1 _
  have hwl := withL_len (nextC s.cells k v false) s.cells
  have hcell : cellIs (nextC s.cells k v false) := isIdx_all hput.1 _ (getL_mem getL_withL_self).1
  have hA := h.e
  rw [hev] at hA
  obtain ⟨cs, hcs⟩ : ∃ cs, cs = withL s.cells (nextC s.cells k v false) := ⟨_, rfl⟩
  have i139 := e139 h.c (by omega) hcell
  have i138 := fun b0 b1 b2 b3 b4 b5 => e138 (H := H) (k := ke) (k' := H.key 6) (l := s.evs) (cs := cs) (L := [b0, b1, b2, b3, b4, b5, outB 5 (cs.map Cell.enc)]) (hA.ext _) (arr_outV (i := 6) rfl (List.length_map ..)) (by omega) (by rw [hcs]; omega) (nextE s.cells k v false)
  have dren := h.d.ren
  unfold addS addB
  rw [hw, ← hcs]
  rw [← hcs] at i139
  simp only [nextC, nextE] at i139 i138
  simp only [go_sem, C235, Sh.enc, hev]
  refine CL.of (f130_ok (h.c.ext _) h.cl k) ?_
  rintro _ _ ⟨rfl, rfl⟩
  simp only [go_sem, Cell.enc]
  refine CL.of (f276_ok (c := (getL s.cells k).1) c2 hm hv) ?_
  rintro _ _ ⟨rfl, rfl⟩
  simp only [go_sem, Cell.enc, Evn.enc, c1, i139, i138]
  refine ⟨_, [7, 8], by simp only [nextC, nextE, Sh.enc, Cell.enc, c1, outV_ren', dren, go_sem], rfl, rfl, by decide, by simp only [nextC, nextE, go_sem, ↓outB_ren', Cell.map_rens, Evn.map_rens, implies_true]⟩
end Go.Proofs
/- the code's Do: puts, gets, sets by version: walked. -/

set_option linter.all false
set_option linter.all false
set_option maxRecDepth 100000
namespace Go.Proofs
open Go Go.Ev
variable {H : Heap}

theorem f196_put {s : Sh} (h : s.ok H) {ke : K} (hev : s.ev = outV ke 4 s.evs.length) (hel : s.evs.length < 9000) (hcl : s.cells.length < 9000) {k v : List Nat} (hk : isKey k) (hv : (v.length : Int) ≤ 12) (hI : isHist s.evs s.cells) (hm : (getL s.cells k).1.ver < 1000000000000) :
    FnOk Tryz.prog 196 [.agg s.enc, .str k, .str v, .bool false] H fun r G => r = .tup [.agg (addS s (nextC s.cells k v false) (nextE s.cells k v false) (H.key 0) (H.key 1)).enc, .agg [.int .i64 0, .str [], .int .i64 ((getL s.cells k).1.ver + 1), .nils]] ∧ G = H.ext (addB s (nextC s.cells k v false) (nextE s.cells k v false)) := by
  refine FnOk.dropW ?_
  refine FnOk.of_WW Tryz.func196 rfl C196ok R196ok EG good_EG ?_
  have dren := h.d.ren
  simp only [go_sem, C196, Sh.enc]
  refine CL.of (f235_put (h.ext _) hev hel hcl hk hv hI hm) ?_
  rintro _ _ ⟨rfl, rfl⟩
  simp only [go_sem, Sh.enc, addS, addB, Heap.key_ext, Cell.enc, nextC, nextE, e109]
  exact ⟨_, [3, 4], by simp only [addS, nextC, nextE, Sh.enc, outV_ren', dren, go_sem], rfl, rfl, by decide, by simp only [addB, nextC, nextE, go_sem, ↓outB_ren', Cell.map_rens, Evn.map_rens, implies_true]⟩
def A54 (H : Heap) (args : List AV) (q : Sh × List Nat) : Prop := args = [.agg q.1.enc, .str q.2] ∧ q.1.ok H
noncomputable def EO5 (f : FuncId) (args : List AV) (H : Heap) : RC :=
  match f with
  | 195 => ot (A54 H args) fun q => .ok (.agg (getA (getL q.1.cells q.2).1)) H
  | _ => .fail
theorem good_EO5 : Ev.Good Tryz.prog EO5 := by
  intro f args H r G he φ w args' ha hw
  refine (?_ : FnOk Tryz.prog f args H fun v' G' => v' = r ∧ G' = G).one φ w args' ha hw
  unfold EO5 at he
  split at he
  · obtain ⟨q, ⟨rfl, h1⟩, hz⟩ := ot_ok he
    clear he
    cases hz
    exact f195_ok h1 _
  · cases he
theorem e54s {s : Sh} (h : s.ok H) (k : List Nat) (L : List Blk) : EO5 195 [.agg [.int .i64 s.id, .int .i64 s.ep, .str s.fr, .str s.to, .bool s.frz, s.cv, s.ev, s.dv], .str k] (H.ext L) = .ok (.agg (getA (getL s.cells k).1)) (H.ext L) := by
  show ot (A54 (H.ext L) [.agg s.enc, .str k]) (fun q => .ok (.agg (getA (getL q.1.cells q.2).1)) (H.ext L)) = _
  rw [ot_eq (p := A54 (H.ext L) [.agg s.enc, .str k]) (x := (s, k)) ⟨rfl, h.ext L⟩]
  rintro ⟨s', k'⟩ ⟨h1, h2⟩
  injection h1 with h1 h3
  injection h3 with h3 _
  injection h1 with h1
  injection h3 with h3
  dsimp only at h1 h2 h3
  rw [Sh.uniq h1 (h.ext L) h2, h3]
theorem f148_put {s : Sh} (h : s.ok H) {ke : K} (hev : s.ev = outV ke 4 s.evs.length) (hel : s.evs.length < 9000) (hcl : s.cells.length < 9000) {k v : List Nat} (hk : isKey k) (hv : (v.length : Int) ≤ 12) (hI : isHist s.evs s.cells) (hm : (getL s.cells k).1.ver < 1000000000000) :
    FnOk Tryz.prog 148 [.agg s.enc, .agg [.int .i64 2, .str k, .str [], .str v, .int .i64 0, .nils]] H fun r G => r = .tup [.agg (addS s (nextC s.cells k v false) (nextE s.cells k v false) (H.key 0) (H.key 1)).enc, .agg [.int .i64 0, .str [], .int .i64 ((getL s.cells k).1.ver + 1), .nils]] ∧ G = H.ext (addB s (nextC s.cells k v false) (nextE s.cells k v false)) := by
  refine FnOk.dropW ?_
  refine FnOk.of_WW Tryz.func148 rfl C148ok R148ok E0 good_E0 ?_
  have dren := h.d.ren
  simp only [go_sem, C148, Sh.enc]
  refine CL.of (f140_put hk hv) ?_
  rintro _ _ ⟨rfl, rfl⟩
  simp only [go_sem]
  refine CL.of (f196_put (h.ext _) hev hel hcl hk hv hI hm) ?_
  rintro _ _ ⟨rfl, rfl⟩
  simp only [go_sem, Sh.enc, addS, addB, Heap.key_ext]
  exact ⟨_, [4, 5], by simp only [addS, nextC, nextE, Sh.enc, outV_ren', dren, go_sem], rfl, rfl, by decide, by simp only [addB, nextC, nextE, go_sem, ↓outB_ren', Cell.map_rens, Evn.map_rens, implies_true]⟩
theorem f148_get {s : Sh} (h : s.ok H) {k : List Nat} (hk : isKey k) :
    FnOk Tryz.prog 148 [.agg s.enc, .agg [.int .i64 1, .str k, .str [], .str [], .int .i64 0, .nils]] H fun r G => r = .tup [.agg s.enc, .agg (getA (getL s.cells k).1)] ∧ G = H := by
  refine FnOk.dropOld (R := fun r => r = .tup [.agg s.enc, .agg (getA (getL s.cells k).1)]) ?_ ?_
  · refine FnOk.of_WW Tryz.func148 rfl C148ok R148ok EO5 good_EO5 ?_
    obtain ⟨x0, x1, x2, x3, hx⟩ : ∃ x0 x1 x2 x3, getA (getL s.cells k).1 = [x0, x1, x2, x3] := by unfold getA; split <;> exact ⟨_, _, _, _, rfl⟩
    have i54 := e54s h k
    rw [hx] at i54 ⊢
    simp only [go_sem, C148, Sh.enc]
    refine CL.of (f140_get hk) ?_
    rintro _ _ ⟨rfl, rfl⟩
    simp only [go_sem, Sh.enc, i54]
    exact ⟨_, rfl⟩
  · rintro _ rfl top σ
    simp only [AV.ren, AV.rens, h.ren top σ, getA_rens]
end Go.Proofs
/- the code's Ask: walked. -/

set_option linter.all false
set_option linter.all false
set_option maxRecDepth 100000
namespace Go.Proofs
open Go Go.Ev
variable {H : Heap}

theorem rows_le {l : List Dn} (h : ∀ d ∈ l, d.an.rows = []) : ∀ d ∈ l, (d.an.rows.length : Int) ≤ 16 := fun d hd => by rw [h d hd]; decide
theorem stands_rows {l : List Dn} (h : ∀ d ∈ l, d.an.rows = []) (s id : Int) : (stands l s id).1.rows = [] := by
  unfold stands
  cases hf : findD l s with
  | none => rfl
  | some d =>
    dsimp only
    split
    · rfl
    · split
      · exact h d (findD_mem hf).1
      · rfl
theorem f82_put {s : Sh} (h : s.ok H) {ke : K} (hev : s.ev = outV ke 4 s.evs.length) (hel : s.evs.length < 9000) (hcl : s.cells.length < 9000) {k v : List Nat} (hk : isKey k) (hv : (v.length : Int) ≤ 12) (hI : isHist s.evs s.cells) (hm : (getL s.cells k).1.ver < 1000000000000) (hdl : s.done.length < 9000) (hup : upD s.done) (hrw : ∀ d ∈ s.done, d.an.rows = []) {ses id : Int} (hn : (stands s.done ses id).2 = 0) :
    FnOk Tryz.prog 82 [.agg s.enc, .int .i64 ses, .int .i64 id, .agg [.int .i64 2, .str k, .str [], .str v, .int .i64 0, .nils]] H fun r G => r = .tup [.agg (askS s k v ses id (H.key 0) (H.key 1) (H.key 2)).enc, .agg [.int .i64 0, .str [], .int .i64 ((getL s.cells k).1.ver + 1), .nils], .int .i64 0] ∧ G = H.ext (askB s k v ses id) := by
  refine FnOk.dropW ?_
  refine FnOk.of_WW Tryz.func82 rfl C82ok R82ok E0 good_E0 ?_
  have hdok := withD_ok h.dok (putA_ok H ((getL s.cells k).1.ver + 1)) (d := ⟨ses, id, putA ((getL s.cells k).1.ver + 1)⟩)
  have drn := hdok.rens
  simp only [go_sem, C82, Sh.enc]
  refine CL.of (f147_ok (h.d.ext _) (h.dok.ext _) (by omega) hup (rows_le hrw) ses id) ?_
  rintro _ _ ⟨z, rfl, rfl⟩
  have hrr := stands_rows hrw ses id
  cases z
  all_goals
    simp only [go_sem, ansV, hn, hrr, zV, zB]
    refine CL.of (f148_put (h.ext _) hev hel hcl hk hv hI hm) ?_
    rintro _ _ ⟨rfl, rfl⟩
    simp only [go_sem, Sh.enc, addS, addB, Heap.key_ext]
    refine CL.of (f83_put k v) ?_
    rintro _ _ ⟨rfl, rfl⟩
    simp only [go_sem, Sh.enc]
    refine CL.of (f149_ok (d := ⟨ses, id, putA ((getL s.cells k).1.ver + 1)⟩) (h.d.ext _) (h.dok.ext _) (putA_ok _ _) hup (by omega)) ?_
    rintro _ _ ⟨rfl, rfl⟩
    simp only [go_sem, Sh.enc]
    exact ⟨_, [6, 7, 9], by simp only [askS, addS, nextC, nextE, Sh.enc, outV_ren', go_sem], rfl, rfl, by decide, by simp only [askB, addB, nextC, nextE, go_sem, ↓outB_ren', Cell.map_rens, Evn.map_rens, drn, implies_true]⟩
end Go.Proofs
/- The laid-out code of the functions that are walked. Printed by a program. -/

set_option linter.all false
set_option maxRecDepth 100000
namespace Go.Proofs
open Go Go.Ev K
@[go_sem] theorem call111 (a H) : callC Tryz.prog 111 a H = .call 111 a := callC_ok (by kernel_rfl) a H
noncomputable def C120 := mkC Tryz.prog Tryz.f120 11
theorem C120ok : CCok Tryz.prog Tryz.f120 11 C120 := mkC_ok _
@[go_sem] theorem call120 (a H) : callC Tryz.prog 120 a H = .call 120 a := callC_ok (by kernel_rfl) a H
theorem R120ok : resKs Tryz.prog Tryz.f120.results.toList = some [(RK.tmp z.i)] := by kernel_rfl

noncomputable def C183 := mkC Tryz.prog Tryz.f183 18
theorem C183ok : CCok Tryz.prog Tryz.f183 18 C183 := mkC_ok _
@[go_sem] theorem call183 (a H) : callC Tryz.prog 183 a H = .call 183 a := callC_ok (by kernel_rfl) a H
theorem R183ok : resKs Tryz.prog Tryz.f183.results.toList = some [(RK.tmp z.i)] := by kernel_rfl

noncomputable def C184 := mkC Tryz.prog Tryz.f184 19
theorem C184ok : CCok Tryz.prog Tryz.f184 19 C184 := mkC_ok _
@[go_sem] theorem call184 (a H) : callC Tryz.prog 184 a H = .call 184 a := callC_ok (by kernel_rfl) a H
theorem R184ok : resKs Tryz.prog Tryz.f184.results.toList = some [(RK.tmp z.i)] := by kernel_rfl

end Go.Proofs
/- The document's shards: Is, Same: walked (ported). -/


set_option linter.all false
set_option maxRecDepth 100000
namespace Go.Proofs
open Go Go.Ev
variable {H : Heap}
noncomputable def EO2 : FuncId → List AV → Heap → RC
  | 118, [.agg [.int .i64 c, .str s, .int .i64 n, v], .agg [.int .i64 c2, .str s2, .int .i64 n2, v2]], H => match rwsOf H v with | some l => (match rwsOf H v2 with | some l2 => .ok (.bool (decide (sameA ⟨c, s, n, l, v⟩ ⟨c2, s2, n2, l2, v2⟩))) H | none => .fail) | none => .fail
  | _, _, _ => .fail
theorem e31 {a b : An} (h : a.ok H) (g : b.ok H) : EO2 118 [.agg [.int .i64 a.code, .str a.val, .int .i64 a.ver, a.rv], .agg [.int .i64 b.code, .str b.val, .int .i64 b.ver, b.rv]] H = .ok (.bool (decide (sameA a b))) H := by
  show (match rwsOf H a.rv with | some l => (match rwsOf H b.rv with | some l2 => RC.ok (.bool (decide (sameA ⟨a.code, a.val, a.ver, l, a.rv⟩ ⟨b.code, b.val, b.ver, l2, b.rv⟩))) H | none => .fail) | none => .fail) = _
  rw [rwsOf_eq h.1 h.2, rwsOf_eq g.1 g.2]
end Go.Proofs
/- The laid-out code of the functions that are walked. Printed by a program. -/

set_option linter.all false
set_option maxRecDepth 100000
namespace Go.Proofs
open Go Go.Ev K
noncomputable def C44 := mkC Tryz.prog Tryz.f44 56
theorem C44ok : CCok Tryz.prog Tryz.f44 56 C44 := mkC_ok _
@[go_sem] theorem call44 (a H) : callC Tryz.prog 44 a H = .call 44 a := callC_ok (by kernel_rfl) a H
theorem R44ok : resKs Tryz.prog Tryz.f44.results.toList = some [(RK.cell z.o.i true 4), (RK.tmp z.i.o)] := by kernel_rfl

noncomputable def C79 := mkC Tryz.prog Tryz.f79 13
theorem C79ok : CCok Tryz.prog Tryz.f79 13 C79 := mkC_ok _
@[go_sem] theorem call79 (a H) : callC Tryz.prog 79 a H = .call 79 a := callC_ok (by kernel_rfl) a H
theorem R79ok : resKs Tryz.prog Tryz.f79.results.toList = some [(RK.cell z.o.i true 8), (RK.tmp z.i.o)] := by kernel_rfl

noncomputable def C84 := mkC Tryz.prog Tryz.f84 13
theorem C84ok : CCok Tryz.prog Tryz.f84 13 C84 := mkC_ok _
@[go_sem] theorem call84 (a H) : callC Tryz.prog 84 a H = .call 84 a := callC_ok (by kernel_rfl) a H
theorem R84ok : resKs Tryz.prog Tryz.f84.results.toList = some [(RK.cell z.o.i true 8), (RK.tmp z.i.o)] := by kernel_rfl

noncomputable def C23 := mkC Tryz.prog Tryz.f23 3
theorem C23ok : CCok Tryz.prog Tryz.f23 3 C23 := mkC_ok _
@[go_sem] theorem call23 (a H) : callC Tryz.prog 23 a H = .call 23 a := callC_ok (by kernel_rfl) a H
theorem R23ok : resKs Tryz.prog Tryz.f23.results.toList = some [(RK.tmp z)] := by kernel_rfl

@[go_sem] theorem call54 (a H) : callC Tryz.prog 54 a H = .call 54 a := callC_ok (by kernel_rfl) a H
noncomputable def C13 := mkC Tryz.prog Tryz.f13 22
theorem C13ok : CCok Tryz.prog Tryz.f13 22 C13 := mkC_ok _
@[go_sem] theorem call13 (a H) : callC Tryz.prog 13 a H = .call 13 a := callC_ok (by kernel_rfl) a H
theorem R13ok : resKs Tryz.prog Tryz.f13.results.toList = some [(RK.tmp z.i)] := by kernel_rfl

noncomputable def C55 := mkC Tryz.prog Tryz.f55 11
theorem C55ok : CCok Tryz.prog Tryz.f55 11 C55 := mkC_ok _
@[go_sem] theorem call55 (a H) : callC Tryz.prog 55 a H = .call 55 a := callC_ok (by kernel_rfl) a H
theorem R55ok : resKs Tryz.prog Tryz.f55.results.toList = some [(RK.cell z.i true 16)] := by kernel_rfl

noncomputable def C109 := mkC Tryz.prog Tryz.f109 46
theorem C109ok : CCok Tryz.prog Tryz.f109 46 C109 := mkC_ok _
@[go_sem] theorem call109 (a H) : callC Tryz.prog 109 a H = .call 109 a := callC_ok (by kernel_rfl) a H
theorem R109ok : resKs Tryz.prog Tryz.f109.results.toList = some [(RK.tmp z.o.i)] := by kernel_rfl

noncomputable def C110 := mkC Tryz.prog Tryz.f110 40
theorem C110ok : CCok Tryz.prog Tryz.f110 40 C110 := mkC_ok _
@[go_sem] theorem call110 (a H) : callC Tryz.prog 110 a H = .call 110 a := callC_ok (by kernel_rfl) a H
theorem R110ok : resKs Tryz.prog Tryz.f110.results.toList = some [(RK.cell z.o.i true 4), (RK.tmp z.i.o)] := by kernel_rfl

noncomputable def C50 := mkC Tryz.prog Tryz.f50 17
theorem C50ok : CCok Tryz.prog Tryz.f50 17 C50 := mkC_ok _
@[go_sem] theorem call50 (a H) : callC Tryz.prog 50 a H = .call 50 a := callC_ok (by kernel_rfl) a H
theorem R50ok : resKs Tryz.prog Tryz.f50.results.toList = some [(RK.cell z.o.i true 8), (RK.tmp z.i.o)] := by kernel_rfl

noncomputable def C51 := mkC Tryz.prog Tryz.f51 11
theorem C51ok : CCok Tryz.prog Tryz.f51 11 C51 := mkC_ok _
@[go_sem] theorem call51 (a H) : callC Tryz.prog 51 a H = .call 51 a := callC_ok (by kernel_rfl) a H
theorem R51ok : resKs Tryz.prog Tryz.f51.results.toList = some [(RK.tmp z.o.i)] := by kernel_rfl

noncomputable def C146 := mkC Tryz.prog Tryz.f146 13
theorem C146ok : CCok Tryz.prog Tryz.f146 13 C146 := mkC_ok _
@[go_sem] theorem call146 (a H) : callC Tryz.prog 146 a H = .call 146 a := callC_ok (by kernel_rfl) a H
theorem R146ok : resKs Tryz.prog Tryz.f146.results.toList = some [(RK.tmp z.o.o)] := by kernel_rfl

noncomputable def C150 := mkC Tryz.prog Tryz.f150 27
theorem C150ok : CCok Tryz.prog Tryz.f150 27 C150 := mkC_ok _
@[go_sem] theorem call150 (a H) : callC Tryz.prog 150 a H = .call 150 a := callC_ok (by kernel_rfl) a H
theorem R150ok : resKs Tryz.prog Tryz.f150.results.toList = some [(RK.tmp z.o.o)] := by kernel_rfl

noncomputable def C45 := mkC Tryz.prog Tryz.f45 38
theorem C45ok : CCok Tryz.prog Tryz.f45 38 C45 := mkC_ok _
@[go_sem] theorem call45 (a H) : callC Tryz.prog 45 a H = .call 45 a := callC_ok (by kernel_rfl) a H
theorem R45ok : resKs Tryz.prog Tryz.f45.results.toList = some [(RK.cell z.i true 8)] := by kernel_rfl

@[go_sem] theorem call126 (a H) : callC Tryz.prog 126 a H = .call 126 a := callC_ok (by kernel_rfl) a H
noncomputable def C168 := mkC Tryz.prog Tryz.f168 9
theorem C168ok : CCok Tryz.prog Tryz.f168 9 C168 := mkC_ok _
@[go_sem] theorem call168 (a H) : callC Tryz.prog 168 a H = .call 168 a := callC_ok (by kernel_rfl) a H
theorem R168ok : resKs Tryz.prog Tryz.f168.results.toList = some [(RK.tmp z.o.i)] := by kernel_rfl

noncomputable def C169 := mkC Tryz.prog Tryz.f169 6
theorem C169ok : CCok Tryz.prog Tryz.f169 6 C169 := mkC_ok _
@[go_sem] theorem call169 (a H) : callC Tryz.prog 169 a H = .call 169 a := callC_ok (by kernel_rfl) a H
theorem R169ok : resKs Tryz.prog Tryz.f169.results.toList = some [(RK.tmp z.i)] := by kernel_rfl

noncomputable def C170 := mkC Tryz.prog Tryz.f170 7
theorem C170ok : CCok Tryz.prog Tryz.f170 7 C170 := mkC_ok _
@[go_sem] theorem call170 (a H) : callC Tryz.prog 170 a H = .call 170 a := callC_ok (by kernel_rfl) a H
theorem R170ok : resKs Tryz.prog Tryz.f170.results.toList = some [] := by kernel_rfl

noncomputable def C171 := mkC Tryz.prog Tryz.f171 14
theorem C171ok : CCok Tryz.prog Tryz.f171 14 C171 := mkC_ok _
@[go_sem] theorem call171 (a H) : callC Tryz.prog 171 a H = .call 171 a := callC_ok (by kernel_rfl) a H
theorem R171ok : resKs Tryz.prog Tryz.f171.results.toList = some [] := by kernel_rfl

noncomputable def C173 := mkC Tryz.prog Tryz.f173 20
theorem C173ok : CCok Tryz.prog Tryz.f173 20 C173 := mkC_ok _
@[go_sem] theorem call173 (a H) : callC Tryz.prog 173 a H = .call 173 a := callC_ok (by kernel_rfl) a H
theorem R173ok : resKs Tryz.prog Tryz.f173.results.toList = some [(RK.tmp z.o.i)] := by kernel_rfl

noncomputable def C80 := mkC Tryz.prog Tryz.f80 19
theorem C80ok : CCok Tryz.prog Tryz.f80 19 C80 := mkC_ok _
@[go_sem] theorem call80 (a H) : callC Tryz.prog 80 a H = .call 80 a := callC_ok (by kernel_rfl) a H
theorem R80ok : resKs Tryz.prog Tryz.f80.results.toList = some [(RK.tmp z.i)] := by kernel_rfl

noncomputable def C174 := mkC Tryz.prog Tryz.f174 26
theorem C174ok : CCok Tryz.prog Tryz.f174 26 C174 := mkC_ok _
@[go_sem] theorem call174 (a H) : callC Tryz.prog 174 a H = .call 174 a := callC_ok (by kernel_rfl) a H
theorem R174ok : resKs Tryz.prog Tryz.f174.results.toList = some [] := by kernel_rfl

end Go.Proofs
/- The laid-out code of the functions that are walked. Printed by a program. -/

set_option linter.all false
set_option maxRecDepth 100000
namespace Go.Proofs
open Go Go.Ev K
noncomputable def C119 := mkC Tryz.prog Tryz.f119 19
theorem C119ok : CCok Tryz.prog Tryz.f119 19 C119 := mkC_ok _
@[go_sem] theorem call119 (a H) : callC Tryz.prog 119 a H = .call 119 a := callC_ok (by kernel_rfl) a H
theorem R119ok : resKs Tryz.prog Tryz.f119.results.toList = some [(RK.tmp z.o.i)] := by kernel_rfl

noncomputable def C213 := mkC Tryz.prog Tryz.f213 9
theorem C213ok : CCok Tryz.prog Tryz.f213 9 C213 := mkC_ok _
@[go_sem] theorem call213 (a H) : callC Tryz.prog 213 a H = .call 213 a := callC_ok (by kernel_rfl) a H
theorem R213ok : resKs Tryz.prog Tryz.f213.results.toList = some [] := by kernel_rfl

noncomputable def C214 := mkC Tryz.prog Tryz.f214 19
theorem C214ok : CCok Tryz.prog Tryz.f214 19 C214 := mkC_ok _
@[go_sem] theorem call214 (a H) : callC Tryz.prog 214 a H = .call 214 a := callC_ok (by kernel_rfl) a H
theorem R214ok : resKs Tryz.prog Tryz.f214.results.toList = some [(RK.tmp z.o.i)] := by kernel_rfl

noncomputable def C215 := mkC Tryz.prog Tryz.f215 18
theorem C215ok : CCok Tryz.prog Tryz.f215 18 C215 := mkC_ok _
@[go_sem] theorem call215 (a H) : callC Tryz.prog 215 a H = .call 215 a := callC_ok (by kernel_rfl) a H
theorem R215ok : resKs Tryz.prog Tryz.f215.results.toList = some [(RK.tmp z.i)] := by kernel_rfl

noncomputable def C216 := mkC Tryz.prog Tryz.f216 20
theorem C216ok : CCok Tryz.prog Tryz.f216 20 C216 := mkC_ok _
@[go_sem] theorem call216 (a H) : callC Tryz.prog 216 a H = .call 216 a := callC_ok (by kernel_rfl) a H
theorem R216ok : resKs Tryz.prog Tryz.f216.results.toList = some [(RK.tmp z.o.i)] := by kernel_rfl

noncomputable def C217 := mkC Tryz.prog Tryz.f217 148
theorem C217ok : CCok Tryz.prog Tryz.f217 148 C217 := mkC_ok _
@[go_sem] theorem call217 (a H) : callC Tryz.prog 217 a H = .call 217 a := callC_ok (by kernel_rfl) a H
theorem R217ok : resKs Tryz.prog Tryz.f217.results.toList = some [] := by kernel_rfl

noncomputable def C218 := mkC Tryz.prog Tryz.f218 8
theorem C218ok : CCok Tryz.prog Tryz.f218 8 C218 := mkC_ok _
@[go_sem] theorem call218 (a H) : callC Tryz.prog 218 a H = .call 218 a := callC_ok (by kernel_rfl) a H
theorem R218ok : resKs Tryz.prog Tryz.f218.results.toList = some [(RK.tmp z.i)] := by kernel_rfl

noncomputable def C219 := mkC Tryz.prog Tryz.f219 6
theorem C219ok : CCok Tryz.prog Tryz.f219 6 C219 := mkC_ok _
@[go_sem] theorem call219 (a H) : callC Tryz.prog 219 a H = .call 219 a := callC_ok (by kernel_rfl) a H
theorem R219ok : resKs Tryz.prog Tryz.f219.results.toList = some [(RK.tmp z.i)] := by kernel_rfl

noncomputable def C220 := mkC Tryz.prog Tryz.f220 42
theorem C220ok : CCok Tryz.prog Tryz.f220 42 C220 := mkC_ok _
@[go_sem] theorem call220 (a H) : callC Tryz.prog 220 a H = .call 220 a := callC_ok (by kernel_rfl) a H
theorem R220ok : resKs Tryz.prog Tryz.f220.results.toList = some [(RK.tmp z.o.i)] := by kernel_rfl

@[go_sem] theorem call221 (a H) : callC Tryz.prog 221 a H = .call 221 a := callC_ok (by kernel_rfl) a H
noncomputable def C222 := mkC Tryz.prog Tryz.f222 9
theorem C222ok : CCok Tryz.prog Tryz.f222 9 C222 := mkC_ok _
@[go_sem] theorem call222 (a H) : callC Tryz.prog 222 a H = .call 222 a := callC_ok (by kernel_rfl) a H
theorem R222ok : resKs Tryz.prog Tryz.f222.results.toList = some [(RK.tmp z.o.o)] := by kernel_rfl

noncomputable def C252 := mkC Tryz.prog Tryz.f252 63
theorem C252ok : CCok Tryz.prog Tryz.f252 63 C252 := mkC_ok _
@[go_sem] theorem call252 (a H) : callC Tryz.prog 252 a H = .call 252 a := callC_ok (by kernel_rfl) a H
theorem R252ok : resKs Tryz.prog Tryz.f252.results.toList = some [] := by kernel_rfl

noncomputable def C253 := mkC Tryz.prog Tryz.f253 6
theorem C253ok : CCok Tryz.prog Tryz.f253 6 C253 := mkC_ok _
@[go_sem] theorem call253 (a H) : callC Tryz.prog 253 a H = .call 253 a := callC_ok (by kernel_rfl) a H
theorem R253ok : resKs Tryz.prog Tryz.f253.results.toList = some [(RK.tmp z.i)] := by kernel_rfl

noncomputable def C254 := mkC Tryz.prog Tryz.f254 53
theorem C254ok : CCok Tryz.prog Tryz.f254 53 C254 := mkC_ok _
@[go_sem] theorem call254 (a H) : callC Tryz.prog 254 a H = .call 254 a := callC_ok (by kernel_rfl) a H
theorem R254ok : resKs Tryz.prog Tryz.f254.results.toList = some [] := by kernel_rfl

noncomputable def C263 := mkC Tryz.prog Tryz.f263 25
theorem C263ok : CCok Tryz.prog Tryz.f263 25 C263 := mkC_ok _
@[go_sem] theorem call263 (a H) : callC Tryz.prog 263 a H = .call 263 a := callC_ok (by kernel_rfl) a H
theorem R263ok : resKs Tryz.prog Tryz.f263.results.toList = some [(RK.tmp z.i)] := by kernel_rfl

noncomputable def C286 := mkC Tryz.prog Tryz.f286 53
theorem C286ok : CCok Tryz.prog Tryz.f286 53 C286 := mkC_ok _
@[go_sem] theorem call286 (a H) : callC Tryz.prog 286 a H = .call 286 a := callC_ok (by kernel_rfl) a H
theorem R286ok : resKs Tryz.prog Tryz.f286.results.toList = some [] := by kernel_rfl

end Go.Proofs
/- sums of bytes, what is wrapped: walked. -/

set_option linter.all false
set_option linter.all false
set_option maxRecDepth 100000
namespace Go.Proofs
open Go Go.Ev
variable {H : Heap}

def xorU (x y : Int) : Int := IntKind.u32.wrap ((BitVec.ofInt IntKind.u32.bits x ^^^ BitVec.ofInt IntKind.u32.bits y).toNat : Int)
theorem bin_xorU {β : Type} (ek : EK) (pk : Option (List LK)) (lit : Bool) (x y : Int) (f : β) (c : AV → β) : binV Tryz.prog ek pk lit .xor (.int .u32 x) (.int .u32 y) f c = c (.int .u32 (xorU x y)) := by rw [bin_xor]; rfl
def stepU (x : Int) (b : Nat) : Int := IntKind.u32.wrap (xorU x (IntKind.u32.wrap (b : Int)) * 16777619)
/-- a sum of bytes -/
def sumT (s : List Nat) : Int := s.foldl stepU 2166136261
theorem sumT_next {s : List Nat} {i b : Nat} (h : s[i]? = some b) : sumT (s.take (i + 1)) = IntKind.u32.wrap (xorU (sumT (s.take i)) (IntKind.u32.wrap (b : Int)) * 16777619) := by
  unfold sumT
  rw [List.take_add_one, h, List.foldl_append]
  rfl
theorem f184_ok {s : List Nat} (hl : s.length < 4611686018427387904) : FnOk Tryz.prog 184 [.str s] H fun r G => r = .int .u32 (sumT s) ∧ G = H := by
  refine FnOk.drop (R := fun r => r = .int .u32 (sumT s)) ?_ (by rintro v rfl ρ; rw [AV.ren])
  refine FnOk.of_WW Tryz.func184 rfl C184ok R184ok E0 good_E0 ?_
  simp only [go_sem, C184]
  refine LL.st good_E0 (fun i : Nat => s.length - i) (fun i => i ≤ s.length) (fun i => [(.z, .str s), ((.o (.o .z)), .int .u32 (sumT (s.take i))), ((.i (.i .z)), .int .i64 s.length), ((.o (.o (.o .z))), .int .i64 i)]) (fun _ => []) ?_ 0 (σ := []) (Wk.of rfl (by decide) (by simp only [go_sem]; first | done | rfl | trace_state) (by simp only [go_sem]; first | done | rfl | trace_state)) (Nat.zero_le _)
  rintro i hi
  by_cases hlt : i < s.length
  · have hget : s[i]? = some s[i] := List.getElem?_eq_getElem hlt
    generalize s[i] = b at hget
    have hci : (i : Int) < (s.length : Int) := by omega
    have hw := wrap_succ (n := i) (by omega)
    have hnew := sumT_next hget
    have X := fun x y f c => bin_xorU (β := R1) .no none false x y f c
    simp only [go_sem, hci, hget, ↓X, hw]
    exact ⟨i + 1, by show s.length - (i + 1) < s.length - i; omega, (show i + 1 ≤ s.length by omega), _, [], rfl, Wk.of rfl (by decide) (by simp only [go_sem, hnew, hw]; first | done | rfl | trace_state) (by simp only [go_sem])⟩
  · have hci : ¬ (i : Int) < (s.length : Int) := by omega
    simp only [go_sem, hci]
    rw [List.take_of_length_le (by omega)]
    exact ⟨rfl, _, rfl⟩
/-- a sum's bytes, the lowest first -/
def byU (x : Int) : Nat := (IntKind.u8.wrap x).toNat
theorem byU_eq (x : Int) : IntKind.u8.wrap x = (byU x : Int) := by
  unfold byU
  have : 0 ≤ IntKind.u8.wrap x := by show 0 ≤ x % _; exact Int.emod_nonneg _ (by decide)
  omega
theorem byU_le (x : Int) : byU x ≤ 255 := by
  have h := byU_eq x
  have : IntKind.u8.wrap x < 256 := by show x % (2 ^ 8 : Int) < 256; exact Int.emod_lt_of_pos x (by decide)
  omega
def byT (x : Int) : List Nat := [byU x, byU (x.fdiv 256), byU (x.fdiv 65536), byU (x.fdiv 16777216)]
theorem shr0 {β : Type} (ek : EK) (pk : Option (List LK)) (lit : Bool) (a : Int) (k : IntKind) (f : β) (c : AV → β) : binV Tryz.prog ek pk lit .shr (.int .u32 a) (.int k 0) f c = c (.int .u32 a) := by
  have h := bin_shr (P := Tryz.prog) ek pk lit .u32 a f c k 0
  have e : a.fdiv (2 ^ min 0 IntKind.u32.bits) = a := Int.fdiv_one a
  rw [e] at h
  exact h
theorem shr8 {β : Type} (ek : EK) (pk : Option (List LK)) (lit : Bool) (a : Int) (k : IntKind) (f : β) (c : AV → β) : binV Tryz.prog ek pk lit .shr (.int .u32 a) (.int k 8) f c = c (.int .u32 (a.fdiv 256)) := bin_shr (P := Tryz.prog) ek pk lit .u32 a f c k 8
theorem shr16 {β : Type} (ek : EK) (pk : Option (List LK)) (lit : Bool) (a : Int) (k : IntKind) (f : β) (c : AV → β) : binV Tryz.prog ek pk lit .shr (.int .u32 a) (.int k 16) f c = c (.int .u32 (a.fdiv 65536)) := bin_shr (P := Tryz.prog) ek pk lit .u32 a f c k 16
theorem shr24 {β : Type} (ek : EK) (pk : Option (List LK)) (lit : Bool) (a : Int) (k : IntKind) (f : β) (c : AV → β) : binV Tryz.prog ek pk lit .shr (.int .u32 a) (.int k 24) f c = c (.int .u32 (a.fdiv 16777216)) := bin_shr (P := Tryz.prog) ek pk lit .u32 a f c k 24
theorem readC_four {β : Type} (f : β) (a b c d : AV) (k : List AV → β) : readC f 1 [[a], [b], [c], [d]] 0 4 k = k [a, b, c, d] := rfl
theorem byT_all {β : Type} (x : Int) (f : β) (c : List Nat → β) : bytesC [.int .u8 (byU x), .int .u8 (byU (x.fdiv 256)), .int .u8 (byU (x.fdiv 65536)), .int .u8 (byU (x.fdiv 16777216))] f c = c (byT x) := by
  refine bytesC_all (l := byT x) (fun b hb => ?_) f c
  simp only [byT, List.mem_cons, List.not_mem_nil, or_false] at hb
  rcases hb with rfl | rfl | rfl | rfl <;> exact byU_le _
theorem f183_ok (x : Int) : FnOk Tryz.prog 183 [.int .u32 x] H fun r G => r = .str (byT x) ∧ G = H := by
  refine FnOk.drop (R := fun r => r = .str (byT x)) ?_ (by rintro v rfl ρ; rw [AV.ren])
  refine FnOk.of_WW Tryz.func183 rfl C183ok R183ok E0 good_E0 ?_
  simp only [go_sem, C183]
  refine LL.st good_E0 (S := Int × List Nat) (fun s => (4 - s.1).toNat) (fun s => s = (0, [0, 0, 0, 0]) ∨ s = (1, [byU x, 0, 0, 0]) ∨ s = (2, [byU x, byU (x.fdiv 256), 0, 0]) ∨ s = (3, [byU x, byU (x.fdiv 256), byU (x.fdiv 65536), 0]) ∨ s = (4, byT x))
    (fun s => [(.z, .int .u32 x), ((.o (.o .z)), .ptr (H.key 0) 0), ((.o (.i .z)), .int .i64 s.1)]) (fun s => [.row true 1 (s.2.map byteC)]) ?_ (0, [0, 0, 0, 0]) (σ := [0]) (Wk.of rfl (by decide) (by simp only [go_sem]; first | done | rfl | trace_state) (by simp only [go_sem, byteC, byteV, byT]; first | done | rfl | trace_state)) (.inl rfl)
  have w0 : IntKind.i64.wrap (8 * 0) = 0 := rfl
  have w1 : IntKind.i64.wrap (8 * 1) = 8 := rfl
  have w2 : IntKind.i64.wrap (8 * 2) = 16 := rfl
  have w3 : IntKind.i64.wrap (8 * 3) = 24 := rfl
  have b0 := byU_eq x
  have b1 := byU_eq (x.fdiv 256)
  have b2 := byU_eq (x.fdiv 65536)
  have b3 := byU_eq (x.fdiv 16777216)
  have s0 := fun l f c => shr0 (β := R1) .no none l x .i64 f c
  have s1 := fun l f c => shr8 (β := R1) .no none l x .i64 f c
  have s2 := fun l f c => shr16 (β := R1) .no none l x .i64 f c
  have s3 := fun l f c => shr24 (β := R1) .no none l x .i64 f c
  have rd := fun a b c d k => readC_four (β := R1) .fail a b c d k
  have al := fun c => byT_all (β := R1) x .fail c
  rintro _ (rfl | rfl | rfl | rfl | rfl)
  · simp only [go_sem, byteC, byteV, w0, ↓s0, b0]
    exact ⟨(1, [byU x, 0, 0, 0]), by show (4 - 1 : Int).toNat < (4 - 0 : Int).toNat; decide, .inr (.inl rfl), _, [0], rfl, Wk.of rfl (by decide) (by simp only [go_sem]; first | done | rfl | trace_state) (by simp only [go_sem, byteC, byteV, byT]; first | done | rfl | trace_state)⟩
  · simp only [go_sem, byteC, byteV, w1, ↓s1, b1]
    exact ⟨(2, [byU x, byU (x.fdiv 256), 0, 0]), by show (4 - 2 : Int).toNat < (4 - 1 : Int).toNat; decide, .inr (.inr (.inl rfl)), _, [0], rfl, Wk.of rfl (by decide) (by simp only [go_sem]; first | done | rfl | trace_state) (by simp only [go_sem, byteC, byteV, byT]; first | done | rfl | trace_state)⟩
  · simp only [go_sem, byteC, byteV, w2, ↓s2, b2]
    exact ⟨(3, [byU x, byU (x.fdiv 256), byU (x.fdiv 65536), 0]), by show (4 - 3 : Int).toNat < (4 - 2 : Int).toNat; decide, .inr (.inr (.inr (.inl rfl))), _, [0], rfl, Wk.of rfl (by decide) (by simp only [go_sem]; first | done | rfl | trace_state) (by simp only [go_sem, byteC, byteV, byT]; first | done | rfl | trace_state)⟩
  · simp only [go_sem, byteC, byteV, w3, ↓s3, b3]
    exact ⟨(4, byT x), by show (4 - 4 : Int).toNat < (4 - 3 : Int).toNat; decide, .inr (.inr (.inr (.inr rfl))), _, [0], rfl, Wk.of rfl (by decide) (by simp only [go_sem]; first | done | rfl | trace_state) (by simp only [go_sem, byteC, byteV, byT]; first | done | rfl | trace_state)⟩
  · simp only [go_sem, byteC, byteV, byT, rd, al]
    exact ⟨Nat.le_refl 4, _, rfl⟩
def wrapT (s : List Nat) : List Nat := byT (sumT (textT s)) ++ textT s
theorem textT_le {s : List Nat} (h : s.length < 1000000) : (textT s).length < 1000100 := by
  have := numT_small (n := s.length) (by omega)
  show (numT s.length ++ s).length < _
  rw [List.length_append]
  omega
theorem f120_ok {s : List Nat} (hs : s.length < 1000000) : FnOk Tryz.prog 120 [.str s] H fun r G => r = .str (wrapT s) ∧ G = H := by
  refine FnOk.drop (R := fun r => r = .str (wrapT s)) ?_ (by rintro v rfl ρ; rw [AV.ren])
  refine FnOk.of_WW Tryz.func120 rfl C120ok R120ok E0 good_E0 ?_
  have hl := textT_le hs
  have h4 : ∀ x, (byT x).length = 4 := fun x => rfl
  have hle : 4 + (textT s).length ≤ 9223372036854775807 := by omega
  simp only [go_sem, C120]
  refine CL.of (f124_ok (s := s) (by omega)) ?_
  rintro _ G' ⟨rfl, hG⟩; rw [hG]; clear hG
  simp only [go_sem]
  refine CL.of (f184_ok (s := textT s) (by omega)) ?_
  rintro _ G' ⟨rfl, hG⟩; rw [hG]; clear hG
  simp only [go_sem]
  refine CL.of (f183_ok _) ?_
  rintro _ G' ⟨rfl, hG⟩; rw [hG]; clear hG
  simp only [go_sem, h4, hle]
  exact ⟨rfl, _, rfl⟩
end Go.Proofs
/- shards of a node: which is the first that is so: walked. -/




set_option linter.all false
set_option linter.all false
set_option maxRecDepth 100000
namespace Go.Proofs
open Go Go.Ev
variable {H : Heap}

/-- the place of the first that is so; below 0: there is none -/
def idx {α : Type} (q : α → Bool) : List α → Nat → Int
  | [], _ => -1
  | s :: l, i => if q s = true then i else idx q l (i + 1)
theorem idx_next {α : Type} (q : α → Bool) {l : List α} {i : Nat} {s : α} (h : l[i]? = some s) : idx q (l.drop i) i = if q s = true then (i : Int) else idx q (l.drop (i + 1)) (i + 1) := by
  obtain ⟨h1, h2⟩ := List.getElem?_eq_some_iff.1 h
  rw [List.drop_eq_getElem_cons h1, h2]
  rfl
theorem idx_end {α : Type} (q : α → Bool) {l : List α} {i : Nat} (h : l.length ≤ i) : idx q (l.drop i) i = -1 := by
  rw [List.drop_eq_nil_of_le h]
  rfl
theorem f119_ok {v : AV} {l : List Sh} (hA : Arr H 8 v (l.map Sh.enc)) (hl : l.length ≤ 100000) {g : FuncId} {caps : List AV} (hcall : ∀ args H, callC Tryz.prog g args H = .call g args)
    (hcaps : ∀ top σ, AV.ren (rho H top σ) (.fn (.func g) [] caps) = .fn (.func g) [] caps) {q : Sh → Bool} (hg : ∀ s ∈ l, ∀ L, FnOk Tryz.prog g (.agg s.enc :: caps) (H.ext L) fun r G => r = .bool (q s) ∧ G = H.ext L) :
    FnOk Tryz.prog 119 [v, .fn (.func g) [] caps] H fun r G => r = .int .i64 (idx q l 0) ∧ G = H := by
  refine FnOk.assume fun hok => ?_
  refine FnOk.drop (R := fun r => r = .int .i64 (idx q l 0)) ?_ (by rintro v rfl ρ; rw [AV.ren])
  refine FnOk.of_WW Tryz.func119 rfl C119ok R119ok E0 good_E0 ?_
  have hlen := fun G => hA.len G; simp only [List.length_map] at hlen; have hren := hA.ren
  simp only [go_sem, C119, hlen]
  refine LL.st good_E0 (fun i : Nat => l.length - i) (fun i => i ≤ l.length ∧ idx q l 0 = idx q (l.drop i) i)
    (fun i => [(.z, v), ((.o .z), .fn (.func g) [] caps), ((.i (.i .z)), v), ((.o (.o (.o .z))), .int .i64 l.length), ((.i (.o (.o .z))), .int .i64 i)]) (fun i => []) ?_ 0 (σ := []) (Wk.of rfl (by decide) (by simp only [go_sem, hren, ↓hcaps]) (by simp only [go_sem])) ⟨Nat.zero_le _, rfl⟩
  rintro i ⟨hi, hno⟩
  by_cases hlt : i < l.length
  · obtain ⟨kk, r, ex', cap', wr, rows, hv, hrho, hgo, hrow⟩ := hA.at hok (j := i) (by rw [List.length_map]; exact hlt)
    simp only [List.length_map, List.getElem_map] at hv hrow
    have hget : l[i]? = some l[i] := List.getElem?_eq_getElem hlt
    generalize l[i] = c at hrow hget
    have hw := wrap_succ (n := i) (by omega)
    have hci : (i : Int) < (l.length : Int) := (by omega)
    have hsi : i + 1 ≤ l.length := (by omega)
    have hgc := hg c (List.mem_of_getElem? hget)
    have hnx := idx_next q hget
    simp only [Sh.enc] at hgc
    simp only [go_sem, hv, hci, hsi, hgo, hrow, hw, Sh.enc, hcall]
    refine CL.of (hgc _) ?_
    rintro _ G' ⟨rfl, hG⟩
    rw [hG]
    clear hG
    cases hq : q c
    · rw [hq, if_neg Bool.false_ne_true] at hnx
      simp only [go_sem, hw]
      exact ⟨i + 1, by show l.length - (i + 1) < l.length - i; omega, ⟨by omega, hno.trans hnx⟩, _, [], rfl, Wk.of rfl (by decide) (by simp only [go_sem, hren, hrho, hv, ↓hcaps, hw]; first | done | rfl | trace_state) (by simp only [go_sem])⟩
    · rw [hq, if_pos rfl] at hnx
      simp only [go_sem]
      exact ⟨by rw [hno, hnx], _, rfl⟩
  · have hci : ¬ (i : Int) < (l.length : Int) := by omega
    simp only [go_sem, hci]
    exact ⟨by rw [hno, idx_end q (by omega)], _, rfl⟩
structure Gn where
  id : Int
  ep : Int
def Gn.enc (g : Gn) : List AV := [.int .i64 g.id, .int .i64 g.ep]
/-- requests whose answers have no rows -/
def bareL (l : List Dn) : Prop := ∀ d ∈ l, d.an.rv = .nils ∧ d.an.rows = []
/-- a shard that isn't great -/
structure smallS (s : Sh) : Prop where
  b : bareL s.done
  c : s.cells.length < 1000
  e : s.evs.length < 1000
  d : s.done.length < 1000
/-- a node's shards, and what it gave away -/
structure isHd (G : Heap) (k : K) (lv gv : AV) (hs : List Sh) (gs : List Gn) : Prop where
  ok : G.ok
  row : G.get k = some (.row true 2 [[lv, gv]])
  l : Arr G 8 lv (hs.map Sh.enc)
  g : Arr G 2 gv (gs.map Gn.enc)
  each : ∀ s ∈ hs, s.ok G
  small : ∀ s ∈ hs, smallS s
  few : hs.length ≤ 8 ∧ gs.length ≤ 8
theorem isHd.ext {G : Heap} {k : K} {lv gv : AV} {hs : List Sh} {gs : List Gn} (h : isHd G k lv gv hs gs) (L : List Blk) : isHd (G.ext L) k lv gv hs gs :=
  ⟨Heap.ok_ext h.ok L, Heap.get_ext_old h.ok h.row L, h.l.ext L, h.g.ext L, fun s hs => (h.each s hs).ext L, h.small, h.few⟩
section
variable {G : Heap} {k : K} {lv gv : AV} {hs : List Sh} {gs : List Gn}
theorem f51_ok (h : isHd G k lv gv hs gs) {g : FuncId} {caps : List AV} (hcall : ∀ args H, callC Tryz.prog g args H = .call g args)
    (hcaps : ∀ top σ, AV.ren (rho G top σ) (.fn (.func g) [] caps) = .fn (.func g) [] caps) {q : Sh → Bool} (hg : ∀ s ∈ hs, ∀ L, FnOk Tryz.prog g (.agg s.enc :: caps) (G.ext L) fun r G' => r = .bool (q s) ∧ G' = G.ext L) :
    FnOk Tryz.prog 51 [.ptr k 0, .fn (.func g) [] caps] G fun r G' => r = .int .i64 (idx q hs 0) ∧ G' = G := by
  refine FnOk.drop (R := fun r => r = .int .i64 (idx q hs 0)) ?_ (by rintro v rfl ρ; rw [AV.ren])
  refine FnOk.of_WW Tryz.func51 rfl C51ok R51ok E0 good_E0 ?_
  have hk : ∀ L, (G.ext L).get k = _ := fun L => Heap.get_ext_old h.ok h.row L
  simp only [go_sem, C51, hk]
  have h64 := f119_ok h.l (by have := h.few.1; omega) hcall hcaps hg
  rw [← Heap.ext_nil G] at h64
  refine CL.of h64 ?_
  rintro _ G' ⟨rfl, hG⟩
  rw [hG]
  clear hG
  simp only [go_sem]
  exact ⟨_, rfl⟩
/-- a shard that does what is asked of a key -/
noncomputable def findQ (key : List Nat) (s : Sh) : Bool := if s.frz = true then false else decide (has s.fr s.to key)
theorem f146_ok {H : Heap} {c : K} {wr : Bool} {key : List Nat} (hk : H.get c = some (.row wr 1 [[.str key]])) (s : Sh) : FnOk Tryz.prog 146 [.agg s.enc, .ptr c 0] H fun r G => r = .bool (findQ key s) ∧ G = H := by
  refine FnOk.assume fun hok => ?_
  refine FnOk.drop (R := fun r => r = .bool (findQ key s)) ?_ (by rintro v rfl ρ; rw [AV.ren])
  refine FnOk.of_WW Tryz.func146 rfl C146ok R146ok E0 good_E0 ?_
  have hgo := Heap.get_ext_old hok hk
  obtain ⟨id, ep, fr, to, frz, cells, evs, done, cv, ev, dv⟩ := s
  cases frz
  · simp only [go_sem, C146, Sh.enc, hgo]
    refine CL.bool (f57_ok fr to key) (fun g => ?_) (fun g => ?_)
    · simp only [go_sem]
      exact ⟨(show AV.bool true = .bool (decide (has fr to key)) from bool_t g), _, rfl⟩
    · simp only [go_sem]
      exact ⟨(show AV.bool false = .bool (decide (has fr to key)) from bool_f g), _, rfl⟩
  · simp only [go_sem, C146, Sh.enc, hgo]
    exact ⟨rfl, _, rfl⟩
/-- a shard where a span begins -/
noncomputable def atQ (f : List Nat) (s : Sh) : Bool := if s.frz = true then false else decide ((ltS s.fr f ∨ s.fr = f) ∧ (s.to = [] ∨ ¬ (ltS s.to f ∨ s.to = f)))
theorem f150_ok {H : Heap} {c : K} {wr : Bool} {f : List Nat} (hk : H.get c = some (.row wr 1 [[.str f]])) (s : Sh) : FnOk Tryz.prog 150 [.agg s.enc, .ptr c 0] H fun r G => r = .bool (atQ f s) ∧ G = H := by
  refine FnOk.assume fun hok => ?_
  refine FnOk.drop (R := fun r => r = .bool (atQ f s)) ?_ (by rintro v rfl ρ; rw [AV.ren])
  refine FnOk.of_WW Tryz.func150 rfl C150ok R150ok E0 good_E0 ?_
  have hgo := Heap.get_ext_old hok hk
  obtain ⟨id, ep, fr, to, frz, cells, evs, done, cv, ev, dv⟩ := s
  cases frz
  · simp only [go_sem, C150, Sh.enc, hgo]
    have hQ : ∀ b, (AV.bool b = .bool (atQ f ⟨id, ep, fr, to, false, cells, evs, done, cv, ev, dv⟩)) = (AV.bool b = .bool (decide ((ltS fr f ∨ fr = f) ∧ (to = [] ∨ ¬ (ltS to f ∨ to = f))))) := fun b => rfl
    simp only [hQ]
    repeat' (first | apply And.intro | intro _)
    all_goals first | exact ⟨_, rfl⟩ | exact bool_t (by grind) | exact bool_f (by grind)
  · simp only [go_sem, C150, Sh.enc, hgo]
    exact ⟨rfl, _, rfl⟩
end
end Go.Proofs
/- a shard's bytes: walked. -/


set_option linter.all false
set_option linter.all false
set_option maxRecDepth 100000
namespace Go.Proofs
open Go Go.Ev
variable {H : Heap}

def evT (e : Evn) : List Nat := textT e.key ++ numT e.ver.toNat ++ textT e.val ++ [e.del.toNat]
noncomputable def dnT (d : Dn) : List Nat := numT d.ses.toNat ++ numT d.id.toNat ++ ansT d.an
end Go.Proofs
/- a shard as a copy: walked. -/

set_option linter.all false
set_option linter.all false
set_option maxRecDepth 100000
namespace Go.Proofs
open Go Go.Ev
variable {H : Heap}

/-- what is cloned -/
def AC (e : Nat) (H : Heap) (args : List AV) (xs : List (List AV)) : Prop := ∃ v, args = [v] ∧ Arr H e v xs ∧ xs.length < 100000 ∧ ∀ top σ, xs.map (AV.rens (rho H top σ)) = xs
noncomputable def ECl (f : FuncId) (args : List AV) (H : Heap) : RC :=
  match f with
  | 114 => ot (AC 5 H args) fun xs => .ok (zV (nilB (args.headD .nils)) H.nx 5 xs.length) (H.ext [zB (nilB (args.headD .nils)) 5 xs])
  | 115 => ot (AC 4 H args) fun xs => .ok (zV (nilB (args.headD .nils)) H.nx 4 xs.length) (H.ext [zB (nilB (args.headD .nils)) 4 xs])
  | 116 => ot (AC 6 H args) fun xs => .ok (zV (nilB (args.headD .nils)) H.nx 6 xs.length) (H.ext [zB (nilB (args.headD .nils)) 6 xs])
  | 117 => match args with | [.nils] => .ok .nils H | _ => .fail
  | _ => .fail
theorem good_ECl : Ev.Good Tryz.prog ECl := by
  intro f args H r G he φ w args' ha hw
  refine (?_ : FnOk Tryz.prog f args H fun v' G' => v' = r ∧ G' = G).one φ w args' ha hw
  unfold ECl at he
  split at he
  · obtain ⟨xs, ⟨v, rfl, h1, h2, h3⟩, hz⟩ := ot_ok he
    clear he
    cases hz
    exact clone_zd clo50 h1 (by omega) h3
  · obtain ⟨xs, ⟨v, rfl, h1, h2, h3⟩, hz⟩ := ot_ok he
    clear he
    cases hz
    exact clone_zd clo75 h1 (by omega) h3
  · obtain ⟨xs, ⟨v, rfl, h1, h2, h3⟩, hz⟩ := ot_ok he
    clear he
    cases hz
    exact clone_zd clo57 h1 (by omega) h3
  · split at he
    · cases he; exact clone_nil clo55
    · cases he
  · cases he
theorem ac_eq {e : Nat} (he : 0 < e) {H : Heap} {v : AV} {xs : List (List AV)} (hA : Arr H e v xs) (hl : xs.length < 100000) (hx : ∀ top σ, xs.map (AV.rens (rho H top σ)) = xs) (c : List (List AV) → RC) : ot (AC e H [v]) c = c xs :=
  ot_eq (p := AC e H [v]) (x := xs) ⟨v, rfl, hA, hl, hx⟩ (by
    rintro ys ⟨v', h1, h2, _⟩
    injection h1 with h1 _
    subst h1
    exact Arr.uniq h2 hA he) c
theorem ec77 {v : AV} {l : List Cell} (hA : Arr H 5 v (l.map Cell.enc)) (hl : l.length < 100000) (L : List Blk) : ECl 114 [v] (H.ext L) = .ok (zV (nilB v) (H.key L.length) 5 l.length) (H.ext (L ++ [zB (nilB v) 5 (l.map Cell.enc)])) := by
  show ot (AC 5 (H.ext L) [v]) _ = _
  rw [ac_eq (by decide) (hA.ext L) (by rw [List.length_map]; exact hl) (fun _ _ => Cell.map_rens _ _), List.length_map, Heap.nx_ext, Heap.ext_append]
  rfl
theorem ec78 {v : AV} {l : List Evn} (hA : Arr H 4 v (l.map Evn.enc)) (hl : l.length < 100000) (L : List Blk) : ECl 115 [v] (H.ext L) = .ok (zV (nilB v) (H.key L.length) 4 l.length) (H.ext (L ++ [zB (nilB v) 4 (l.map Evn.enc)])) := by
  show ot (AC 4 (H.ext L) [v]) _ = _
  rw [ac_eq (by decide) (hA.ext L) (by rw [List.length_map]; exact hl) (fun _ _ => Evn.map_rens _ _), List.length_map, Heap.nx_ext, Heap.ext_append]
  rfl
theorem bareL.rens {l : List Dn} (h : bareL l) (ρ : K → K) : (l.map Dn.enc).map (AV.rens ρ) = l.map Dn.enc := by
  rw [List.map_map]
  refine List.map_congr_left fun d hd => ?_
  simp only [Function.comp, Dn.enc, AV.rens, AV.ren, (h d hd).1]
theorem bareL.ok {l : List Dn} (h : bareL l) (H : Heap) : allOk H l := fun d hd => ⟨by rw [(h d hd).1, (h d hd).2]; exact .inl ⟨rfl, rfl⟩, by rw [(h d hd).2]; exact Nat.zero_le _⟩
theorem ec79 {v : AV} {l : List Dn} (hA : Arr H 6 v (l.map Dn.enc)) (hb : bareL l) (hl : l.length < 100000) (L : List Blk) : ECl 116 [v] (H.ext L) = .ok (zV (nilB v) (H.key L.length) 6 l.length) (H.ext (L ++ [zB (nilB v) 6 (l.map Dn.enc)])) := by
  show ot (AC 6 (H.ext L) [v]) _ = _
  rw [ac_eq (by decide) (hA.ext L) (by rw [List.length_map]; exact hl) (fun _ _ => hb.rens _), List.length_map, Heap.nx_ext, Heap.ext_append]
  rfl
theorem ec80 (H : Heap) : ECl 117 [.nils] H = .ok .nils H := rfl
/-- a shard whose lists are copies -/
noncomputable def Sh.cop (s : Sh) (k0 k1 k2 : K) : Sh := ⟨s.id, s.ep, s.fr, s.to, s.frz, s.cells, s.evs, s.done, zV (nilB s.cv) k0 5 s.cells.length, zV (nilB s.ev) k1 4 s.evs.length, zV (nilB s.dv) k2 6 s.done.length⟩
noncomputable def copB (s : Sh) : List Blk := [zB (nilB s.cv) 5 (s.cells.map Cell.enc), zB (nilB s.ev) 4 (s.evs.map Evn.enc), zB (nilB s.dv) 6 (s.done.map Dn.enc)]
theorem Sh.cop_ok {s : Sh} (h : s.ok H) {L : List Blk} {i j m : Nat} (h1 : L[i]? = some (zB (nilB s.cv) 5 (s.cells.map Cell.enc))) (h2 : L[j]? = some (zB (nilB s.ev) 4 (s.evs.map Evn.enc))) (h3 : L[m]? = some (zB (nilB s.dv) 6 (s.done.map Dn.enc))) : (s.cop (H.key i) (H.key j) (H.key m)).ok (H.ext L) :=
  ⟨arr_zV h1 (List.length_map ..), arr_zV h2 (List.length_map ..), arr_zV h3 (List.length_map ..), h.dok.ext L, h.cl, h.el, h.dl⟩
theorem set_same {α : Type} {l : List α} {k : Nat} {x : α} (h : l[k]? = some x) : l.set k x = l := by
  apply List.ext_getElem?
  intro j
  by_cases hj : k = j
  · subst hj
    rw [List.getElem?_set_self (List.getElem?_eq_some_iff.1 h).1, h]
  · rw [List.getElem?_set_ne hj]
theorem f45_ok {s : Sh} (h : s.ok H) (hsm : smallS s) :
    FnOk Tryz.prog 45 [.agg s.enc] H fun r G => r = .agg (s.cop (H.key 0) (H.key 1) (H.key 2)).enc ∧ G = H.ext (copB s) := by
  refine FnOk.dropW ?_
  refine FnOk.of_WW Tryz.func45 rfl C45ok R45ok ECl good_ECl ?_
  obtain ⟨hb, hc, he, hd⟩ := hsm
  have i77 := ec77 h.c (by omega)
  have i78 := ec78 h.e (by omega)
  have i79 := ec79 h.d hb (by omega)
  have drn := hb.rens
  simp only [go_sem, C45, Sh.enc, i77, i78, i79]
  refine LL.st good_ECl (fun i : Nat => s.done.length - i) (fun i => i ≤ s.done.length)
    (fun i => [((.o .z), .ptr (H.key 0) 0), ((.i .z), .ptr (H.key 1) 0), ((.i (.i (.o (.o .z)))), .int .i64 s.done.length), ((.o (.o (.i (.o .z)))), .int .i64 i)])
    (fun _ => .row true 8 [(s.cop (H.key 2) (H.key 3) (H.key 4)).enc] :: .row true 8 [[.int .i64 0, .int .i64 0, .str [], .str [], .bool false, .nils, .nils, .nils]] :: copB s) ?_ 0 (σ := [0, 1, 2, 3, 4]) (Wk.of rfl (by decide) (by simp only [go_sem]; first | done | rfl | trace_state) (by simp only [go_sem, copB, Sh.cop, Sh.enc, zV_ren, ↓zB_ren, Cell.map_rens, Evn.map_rens, drn, implies_true]; first | done | trace_state)) (Nat.zero_le _)
  rintro i hi
  by_cases hlt : i < s.done.length
  · have hci : (i : Int) < (s.done.length : Int) := by omega
    have hw := wrap_succ (n := i) (by omega)
    have hget : s.done[i]? = some s.done[i] := List.getElem?_eq_getElem hlt
    generalize s.done[i] = d at hget
    obtain ⟨hn1, hn2⟩ := hb d (List.mem_of_getElem? hget)
    have hrow : (s.done.map Dn.enc)[i]? = some [.int .i64 d.ses, .int .i64 d.id, .int .i64 d.an.code, .str d.an.val, .int .i64 d.an.ver, .nils] := by
      rw [List.getElem?_map, hget, ← hn1]; rfl
    have hset : (s.done.map Dn.enc).set i [.int .i64 d.ses, .int .i64 d.id, .int .i64 d.an.code, .str d.an.val, .int .i64 d.an.ver, .nils] = s.done.map Dn.enc := set_same hrow
    have hv := zV_pos (z := nilB s.dv) (k := H.key 4) (esz := 6) (n := s.done.length) (by omega)
    have hB := zB_pos (z := nilB s.dv) (esz := 6) (xs := s.done.map Dn.enc) (by rw [List.length_map]; omega)
    have hsi : i + 1 ≤ s.done.length := hlt
    simp only [go_sem, copB, Sh.cop, Sh.enc, hci, hw, hv, hB, hrow, hset, hsi, off6, ec80, Nat.zero_add]
    exact ⟨i + 1, by show s.done.length - (i + 1) < s.done.length - i; omega, hlt, _, [0, 1, 2, 3, 4], rfl, Wk.of rfl (by decide) (by simp only [go_sem]; first | done | rfl | trace_state) (by simp only [go_sem, copB, Sh.cop, Sh.enc, hv, hB, zV_ren, ↓zB_ren, Cell.map_rens, Evn.map_rens, drn, implies_true]; first | done | trace_state)⟩
  · have hci : ¬ (i : Int) < (s.done.length : Int) := by omega
    simp only [go_sem, copB, Sh.cop, Sh.enc, hci]
    exact ⟨_, [2, 3, 4], by simp only [zV_ren, go_sem], rfl, rfl, by decide, by simp only [go_sem, copB, zV_ren, ↓zB_ren, Cell.map_rens, Evn.map_rens, drn, implies_true]⟩
end Go.Proofs
/- a node's shards told: by number, by key, by where they begin: walked. -/

set_option linter.all false
set_option linter.all false
set_option maxRecDepth 100000
namespace Go.Proofs
open Go Go.Ev
variable {H : Heap}

theorem get_lit {bl : List Blk} {i : Nat} {x : Blk} (h : bl[i]? = some x) : (H.ext bl).get (H.key i) = some x := by
  rw [Heap.get_ext_key _ _ _ (List.getElem?_eq_some_iff.1 h).1]; exact h
theorem get_lit2 {bl L : List Blk} {i : Nat} {x : Blk} (h : bl[i]? = some x) : ((H.ext bl).ext L).get (H.key i) = some x := by
  rw [Heap.ext_append]
  refine get_lit ?_
  rw [List.getElem?_append_left (List.getElem?_eq_some_iff.1 h).1]
  exact h
theorem cap_lit {bl : List Blk} {i : Nat} (h : i < bl.length) (g : FuncId) (top : Nat) (σ : List Nat) : AV.ren (rho (H.ext bl) top σ) (.fn (.func g) [] [.ptr (H.key i) 0]) = .fn (.func g) [] [.ptr (H.key i) 0] := by
  have : rho (H.ext bl) top σ (H.key i) = H.key i := rho_old (by rw [Heap.nx_ext, Heap.toNat_key, Heap.toNat_key]; omega)
  simp only [AV.ren, AV.rens, this]
/-- no shard -/
def zS : List AV := [.int .i64 0, .int .i64 0, .str [], .str [], .bool false, .nils, .nils, .nils]
section
variable {G : Heap} {k : K} {lv gv : AV} {hs : List Sh} {gs : List Gn}
theorem f50_yes (h : isHd G k lv gv hs gs) {i : Nat} {s : Sh} (hi : hs[i]? = some s) : FnOk Tryz.prog 50 [.ptr k 0, .int .i64 i] G fun r G' => r = .tup [.agg (s.cop (G.key 0) (G.key 1) (G.key 2)).enc, .bool true] ∧ G' = G.ext (copB s) := by
  refine FnOk.dropW ?_
  refine FnOk.of_WW Tryz.func50 rfl C50ok R50ok E0 good_E0 ?_
  have hk : ∀ L, (G.ext L).get k = _ := fun L => Heap.get_ext_old h.ok h.row L
  obtain ⟨hlt, hs'⟩ := List.getElem?_eq_some_iff.1 hi
  obtain ⟨kk, r, ex', cap', wr, rows, hv, hrho, hgo, hrow⟩ := h.l.at h.ok (j := i) (by rw [List.length_map]; exact hlt)
  simp only [List.length_map, List.getElem_map, hs'] at hv hrow
  have hm := List.mem_of_getElem? hi
  have hsok := h.each s hm
  have hsm := h.small s hm
  have hci : ¬ (i : Int) < 0 := by omega
  have hsi : i + 1 ≤ hs.length := hlt
  have drn := bareL.rens hsm.b
  simp only [go_sem, C50, hci, hk, hv, hsi, hgo, hrow, Sh.enc]
  refine CL.of (f45_ok (hsok.ext _) hsm) ?_
  rintro _ _ ⟨rfl, rfl⟩
  simp only [go_sem, Sh.enc, Sh.cop, copB, Heap.key_ext]
  exact ⟨_, [1, 2, 3], by simp only [zV_ren, go_sem], rfl, rfl, by decide, by simp only [go_sem, zV_ren, ↓zB_ren, Cell.map_rens, Evn.map_rens, drn, implies_true]⟩
theorem f79_yes (h : isHd G k lv gv hs gs) (key : List Nat) {i : Nat} {s : Sh} (hx : idx (findQ key) hs 0 = i) (hi : hs[i]? = some s) : FnOk Tryz.prog 79 [.ptr k 0, .str key] G fun r G' => r = .tup [.agg (s.cop (G.key 0) (G.key 1) (G.key 2)).enc, .bool true] ∧ G' = G.ext (copB s) := by
  refine FnOk.dropW ?_
  refine FnOk.of_WW Tryz.func79 rfl C79ok R79ok E0 good_E0 ?_
  have hsm := h.small s (List.mem_of_getElem? hi)
  have drn := bareL.rens hsm.b
  simp only [go_sem, C79]
  refine CL.of (f51_ok (q := findQ key) (h.ext _) (fun _ _ => call146 ..) (fun top σ => by exact cap_lit (Nat.zero_lt_succ _) 146 top σ) (fun s _ L => by exact f146_ok (get_lit2 rfl) s)) ?_
  rintro _ G' ⟨rfl, hG⟩
  rw [hG, hx]
  clear hG
  simp only [go_sem]
  refine CL.of (f50_yes (h.ext _) hi) ?_
  rintro _ _ ⟨rfl, rfl⟩
  simp only [go_sem, Sh.enc, Sh.cop, copB, Heap.key_ext]
  exact ⟨_, [2, 3, 4], by simp only [zV_ren, go_sem], rfl, rfl, by decide, by simp only [go_sem, zV_ren, ↓zB_ren, Cell.map_rens, Evn.map_rens, drn, implies_true]⟩
theorem f84_yes (h : isHd G k lv gv hs gs) (f : List Nat) {i : Nat} {s : Sh} (hx : idx (atQ f) hs 0 = i) (hi : hs[i]? = some s) : FnOk Tryz.prog 84 [.ptr k 0, .str f] G fun r G' => r = .tup [.agg (s.cop (G.key 0) (G.key 1) (G.key 2)).enc, .bool true] ∧ G' = G.ext (copB s) := by
  refine FnOk.dropW ?_
  refine FnOk.of_WW Tryz.func84 rfl C84ok R84ok E0 good_E0 ?_
  have hsm := h.small s (List.mem_of_getElem? hi)
  have drn := bareL.rens hsm.b
  simp only [go_sem, C84]
  refine CL.of (f51_ok (q := atQ f) (h.ext _) (fun _ _ => call150 ..) (fun top σ => by exact cap_lit (Nat.zero_lt_succ _) 150 top σ) (fun s _ L => by exact f150_ok (get_lit2 rfl) s)) ?_
  rintro _ G' ⟨rfl, hG⟩
  rw [hG, hx]
  clear hG
  simp only [go_sem]
  refine CL.of (f50_yes (h.ext _) hi) ?_
  rintro _ _ ⟨rfl, rfl⟩
  simp only [go_sem, Sh.enc, Sh.cop, copB, Heap.key_ext]
  exact ⟨_, [2, 3, 4], by simp only [zV_ren, go_sem], rfl, rfl, by decide, by simp only [go_sem, zV_ren, ↓zB_ren, Cell.map_rens, Evn.map_rens, drn, implies_true]⟩
end
end Go.Proofs
/- what bytes begin with is told in one way; pieces taken, as told beforehand. -/

set_option linter.all false
set_option linter.all false
set_option maxRecDepth 100000
namespace Go.Proofs
open Go Go.Ev
variable {H : Heap}

def okB (s : List Nat) (p : Bool × List Nat) : Prop := s = p.1.toNat :: p.2 ∧ p.2.length < 1000000
section
variable {k : K} {l : List Nat}
end
end Go.Proofs
/- a shard taken of its bytes: walked. -/

set_option linter.all false
set_option linter.all false
set_option maxRecDepth 100000
namespace Go.Proofs
open Go Go.Ev
variable {H : Heap}

section
variable {k : K} {l : List Nat} {c : Blk}
end
/-- what is left of a list's bytes -/
def flT {α : Type} (f : α → List Nat) (l : List α) : List Nat := (l.map f).flatten
/-- behind cells, behind events -/
noncomputable def r3 (s : Sh) : List Nat := []
noncomputable def r2 (s : Sh) : List Nat := numT s.done.length ++ flT dnT s.done
noncomputable def r1 (s : Sh) : List Nat := numT s.evs.length ++ (flT evT s.evs ++ r2 s)
end Go.Proofs
/- shards in order: how two are compared: walked. -/

set_option linter.all false
set_option linter.all false
set_option maxRecDepth 100000
namespace Go.Proofs
open Go Go.Ev
variable {H : Heap}

/-- two texts compared -/
noncomputable def cmpT (a b : List Nat) : Int := if ltS a b then -1 else if ¬ (ltS a b ∨ a = b) then 1 else 0
def cmpN (a b : Int) : Int := if a < b then -1 else if b < a then 1 else 0
theorem f253_ok (a : List Nat) : FnOk Tryz.prog 253 [.str a] H fun r G => r = .bool false ∧ G = H := by
  refine FnOk.drop (R := fun r => r = .bool false) ?_ (by rintro v rfl ρ; rw [AV.ren])
  refine FnOk.of_WW Tryz.func253 rfl C253ok R253ok E0 good_E0 ?_
  simp only [go_sem, C253]
  exact ⟨_, rfl⟩
theorem f219_ok (a : Int) : FnOk Tryz.prog 219 [.int .i64 a] H fun r G => r = .bool false ∧ G = H := by
  refine FnOk.drop (R := fun r => r = .bool false) ?_ (by rintro v rfl ρ; rw [AV.ren])
  refine FnOk.of_WW Tryz.func219 rfl C219ok R219ok E0 good_E0 ?_
  simp only [go_sem, C219]
  exact ⟨_, rfl⟩
theorem f216_ok (a b : List Nat) : FnOk Tryz.prog 216 [.str a, .str b] H fun r G => r = .int .i64 (cmpT a b) ∧ G = H := by
  refine FnOk.drop (R := fun r => r = .int .i64 (cmpT a b)) ?_ (by rintro v rfl ρ; rw [AV.ren])
  refine FnOk.of_WW Tryz.func216 rfl C216ok R216ok E0 good_E0 ?_
  simp only [go_sem, C216]
  refine CL.of (f253_ok a) ?_
  rintro _ G' ⟨rfl, hG⟩; rw [hG]; clear hG
  simp only [go_sem]
  refine CL.of (f253_ok b) ?_
  rintro _ G' ⟨rfl, hG⟩; rw [hG]; clear hG
  simp only [go_sem]
  unfold cmpT
  refine ⟨fun h => ⟨by rw [if_pos h], _, rfl⟩, fun h => ⟨fun g => ⟨by rw [if_neg h, if_pos g], _, rfl⟩, fun g => ⟨by rw [if_neg h, if_neg g], _, rfl⟩⟩⟩
theorem f173_ok (a b : Int) : FnOk Tryz.prog 173 [.int .i64 a, .int .i64 b] H fun r G => r = .int .i64 (cmpN a b) ∧ G = H := by
  refine FnOk.drop (R := fun r => r = .int .i64 (cmpN a b)) ?_ (by rintro v rfl ρ; rw [AV.ren])
  refine FnOk.of_WW Tryz.func173 rfl C173ok R173ok E0 good_E0 ?_
  simp only [go_sem, C173]
  refine CL.of (f219_ok a) ?_
  rintro _ G' ⟨rfl, hG⟩; rw [hG]; clear hG
  simp only [go_sem]
  refine CL.of (f219_ok b) ?_
  rintro _ G' ⟨rfl, hG⟩; rw [hG]; clear hG
  simp only [go_sem]
  unfold cmpN
  refine ⟨fun h => ⟨by rw [if_pos h], _, rfl⟩, fun h => ⟨fun g => ⟨by rw [if_neg h, if_pos g], _, rfl⟩, fun g => ⟨by rw [if_neg h, if_neg g], _, rfl⟩⟩⟩
theorem readC_1 {β : Type} (f : β) (rows : List (List AV)) (k : Nat) (c : List AV → β) : readC f 1 rows k 1 c = optC rows[k]? f c := by
  have h := readC_at0 f 1 rows k 1 c (by decide) (Nat.le_refl _)
  rw [Nat.mul_one] at h
  exact h
theorem f215_ok {k : K} {wr : Bool} {a b : Int} (hk : H.get k = some (.row wr 1 [[.int .i64 a], [.int .i64 b]])) (ex : Bool) (cap : Nat) : FnOk Tryz.prog 215 [.slice k 0 2 1 ex cap] H fun r G => r = .int .i64 (if ¬ a = 0 then a else b) ∧ G = H := by
  refine FnOk.assume fun hok => ?_
  refine FnOk.drop (R := fun r => r = .int .i64 (if ¬ a = 0 then a else b)) ?_ (by rintro v rfl ρ; rw [AV.ren])
  refine FnOk.of_WW Tryz.func215 rfl C215ok R215ok E0 good_E0 ?_
  have hgo := Heap.get_ext_old hok hk
  have hA : Arr H 1 (.slice k 0 2 1 ex cap) [[.int .i64 a], [.int .i64 b]] := .inr ⟨k, 0, ex, cap, rfl, hok k _ hk, fun _ => ⟨0, wr, _, rfl, hk, rfl⟩⟩
  have hren : ∀ top σ, rho H top σ k = k := fun _ _ => rho_old (hok k _ hk)
  have hw01 : IntKind.i64.wrap (0 + 1) = 1 := rfl
  have hw11 : IntKind.i64.wrap (1 + 1) = 2 := rfl
  simp only [go_sem, C215]
  refine LL.st good_E0 (fun i : Nat => 2 - i) (fun i => i ≤ 2 ∧ (0 < i → a = 0) ∧ (1 < i → b = 0))
    (fun i => [((.o (.o .z)), .int .i64 0), ((.i (.i .z)), .slice k 0 2 1 ex cap), ((.o (.o (.o .z))), .int .i64 2), ((.i (.o (.o .z))), .int .i64 i)]) (fun i => []) ?_ 0 (σ := []) (Wk.of rfl (by decide) (by simp only [go_sem, hren, hw01, hw11]; first | done | rfl | trace_state) (by simp only [go_sem])) ⟨Nat.zero_le _, fun h => absurd h (Nat.lt_irrefl _), fun h => absurd h (Nat.not_lt_zero _)⟩
  rintro i ⟨hi, h1, h2⟩
  have h3 : i = 0 ∨ i = 1 ∨ i = 2 := by omega
  rcases h3 with rfl | rfl | rfl
  · simp only [go_sem, hgo]
    refine ⟨fun h => ⟨by rw [if_pos h], _, rfl⟩, fun h => ?_⟩
    exact ⟨1, by show 2 - 1 < 2 - 0; decide, ⟨by decide, fun _ => Classical.not_not.1 h, fun h => absurd h (Nat.lt_irrefl _)⟩, _, [], rfl, Wk.of rfl (by decide) (by simp only [go_sem, hren, hw01, hw11]; first | done | rfl | trace_state) (by simp only [go_sem])⟩
  · have ha := h1 (by decide)
    simp only [go_sem, hgo, readC_1]
    refine ⟨fun h => ⟨by rw [if_neg (fun g => g ha)], _, rfl⟩, fun h => ?_⟩
    exact ⟨2, by show 2 - 2 < 2 - 1; decide, ⟨by decide, fun _ => ha, fun _ => Classical.not_not.1 h⟩, _, [], rfl, Wk.of rfl (by decide) (by simp only [go_sem, hren, hw01, hw11]; first | done | rfl | trace_state) (by simp only [go_sem])⟩
  · have ha := h1 (by decide)
    have hb := h2 (by decide)
    simp only [go_sem]
    exact ⟨by rw [if_neg (fun g => g ha), hb], _, rfl⟩
noncomputable def EQ (f : FuncId) (args : List AV) (H : Heap) : RC :=
  match f with
  | 216 => match args with | [.str a, .str b] => .ok (.int .i64 (cmpT a b)) H | _ => .fail
  | 173 => match args with | [.int .i64 a, .int .i64 b] => .ok (.int .i64 (cmpN a b)) H | _ => .fail
  | 215 => match args with
    | [.slice k 0 2 1 ex cap] => match H.get k with
      | some (.row wr 1 [[.int .i64 a], [.int .i64 b]]) => .ok (.int .i64 (if ¬ a = 0 then a else b)) H
      | _ => .fail
    | _ => .fail
  | _ => .fail
theorem good_EQ : Ev.Good Tryz.prog EQ := by
  intro f args H r G he φ w args' ha hw
  refine (?_ : FnOk Tryz.prog f args H fun v' G' => v' = r ∧ G' = G).one φ w args' ha hw
  unfold EQ at he
  split at he
  · split at he
    · cases he; exact f216_ok _ _
    · cases he
  · split at he
    · cases he; exact f173_ok _ _
    · cases he
  · split at he
    · split at he
      · rename_i hk
        cases he; exact f215_ok hk _ _
      · cases he
    · cases he
  · cases he
theorem eq88 (a b : List Nat) (H : Heap) : EQ 216 [.str a, .str b] H = .ok (.int .i64 (cmpT a b)) H := rfl
theorem eq49 (a b : Int) (H : Heap) : EQ 173 [.int .i64 a, .int .i64 b] H = .ok (.int .i64 (cmpN a b)) H := rfl
theorem eq87 {k : K} {wr ex : Bool} {cap : Nat} {a b : Int} {H : Heap} (hk : H.get k = some (.row wr 1 [[.int .i64 a], [.int .i64 b]])) : EQ 215 [.slice k 0 2 1 ex cap] H = .ok (.int .i64 (if ¬ a = 0 then a else b)) H := by
  show (match H.get k with | some (.row wr 1 [[.int .i64 a], [.int .i64 b]]) => .ok (.int .i64 (if ¬ a = 0 then a else b)) H | _ => .fail : RC) = _
  rw [hk]
  rfl
/-- two shards compared -/
noncomputable def cmpS (f g : List Nat) (i j : Int) : Int := if ¬ cmpT f g = 0 then cmpT f g else cmpN i j
theorem f214_ok (i e : Int) (f t : List Nat) (z : Bool) (c v d : AV) (i' e' : Int) (f' t' : List Nat) (z' : Bool) (c' v' d' : AV) :
    FnOk Tryz.prog 214 [.agg [.int .i64 i, .int .i64 e, .str f, .str t, .bool z, c, v, d], .agg [.int .i64 i', .int .i64 e', .str f', .str t', .bool z', c', v', d']] H fun r G => r = .int .i64 (cmpS f f' i i') ∧ G = H := by
  refine FnOk.drop (R := fun r => r = .int .i64 (cmpS f f' i i')) ?_ (by rintro v rfl ρ; rw [AV.ren])
  refine FnOk.of_WW Tryz.func214 rfl C214ok R214ok EQ good_EQ ?_
  have i87 := fun b0 b1 => eq87 (H := H.ext [b0, b1, .row true 1 [[.int .i64 (cmpT f f')], [.int .i64 (cmpN i i')]]]) (k := H.key 2) (wr := true) (ex := true) (cap := 2) (get_lit rfl)
  simp only [go_sem, C214, eq88, eq49, i87]
  exact ⟨rfl, _, rfl⟩
noncomputable def EM (f : FuncId) (args : List AV) (H : Heap) : RC :=
  match f with
  | 214 => match args with | [.agg [.int .i64 i, .int .i64 _, .str f, .str _, .bool _, _, _, _], .agg [.int .i64 i', .int .i64 _, .str f', .str _, .bool _, _, _, _]] => .ok (.int .i64 (cmpS f f' i i')) H | _ => .fail
  | _ => .fail
theorem good_EM : Ev.Good Tryz.prog EM := by
  intro f args H r G he φ w args' ha hw
  refine (?_ : FnOk Tryz.prog f args H fun v' G' => v' = r ∧ G' = G).one φ w args' ha hw
  unfold EM at he
  split at he
  · split at he
    · cases he; exact f214_ok _ _ _ _ _ _ _ _ _ _ _ _ _ _ _ _
    · cases he
  · cases he
theorem em86 (i e : Int) (f t : List Nat) (z : Bool) (c v d : AV) (i' e' : Int) (f' t' : List Nat) (z' : Bool) (c' v' d' : AV) (H : Heap) :
    EM 214 [.agg [.int .i64 i, .int .i64 e, .str f, .str t, .bool z, c, v, d], .agg [.int .i64 i', .int .i64 e', .str f', .str t', .bool z', c', v', d']] H = .ok (.int .i64 (cmpS f f' i i')) H := rfl
/-- shards in order: by where they begin, by number -/
def sorted2 : List Sh → Prop
  | [a, b] => ¬ cmpS b.fr a.fr b.id a.id < 0
  | l => l.length ≤ 1
theorem f286_one {v : AV} {n : Nat} (hn : n ≤ 1) (g : AV) : FnOk Tryz.prog 286 [v, .int .i64 0, .int .i64 n, g] H fun r G => r = .tup [] ∧ G = H := by
  refine FnOk.drop (R := fun r => r = .tup []) ?_ (by rintro v rfl ρ; simp only [AV.ren, AV.rens])
  refine FnOk.of_WW Tryz.func286 rfl C286ok R286ok E0 good_E0 ?_
  have hw01 : IntKind.i64.wrap (0 + 1) = 1 := rfl
  have hc : ¬ (1 : Int) < (n : Int) := by omega
  simp only [go_sem, C286, hw01]
  refine LL.st good_E0 (fun _ : Nat => 0) (fun _ => True) (fun _ => [((.i .z), .int .i64 n), ((.i (.o (.o .z))), .int .i64 1)]) (fun _ => []) ?_ 0 (σ := []) (Wk.of rfl (by decide) (by simp only [go_sem]; first | done | rfl | trace_state) (by simp only [go_sem])) trivial
  rintro _ _
  simp only [go_sem, hc]
  exact ⟨_, rfl⟩
theorem f286_two {v : AV} {a b : Sh} (hA : Arr H 8 v [a.enc, b.enc]) (hs : ¬ cmpS b.fr a.fr b.id a.id < 0) : FnOk Tryz.prog 286 [v, .int .i64 0, .int .i64 2, .fn (.func 214) [] []] H fun r G => r = .tup [] ∧ G = H := by
  refine FnOk.assume fun hok => ?_
  refine FnOk.drop (R := fun r => r = .tup []) ?_ (by rintro v rfl ρ; simp only [AV.ren, AV.rens])
  refine FnOk.of_WW Tryz.func286 rfl C286ok R286ok EM good_EM ?_
  have hw01 : IntKind.i64.wrap (0 + 1) = 1 := rfl
  have hw11 : IntKind.i64.wrap (1 + 1) = 2 := rfl
  have hw10 : IntKind.i64.wrap (1 - 1) = 0 := rfl
  have hren := hA.ren
  simp only [go_sem, C286, hw01]
  refine LL.st good_EM (fun i : Nat => 2 - i) (fun i => i = 1 ∨ i = 2) (fun i => [(.z, v), ((.o .z), .int .i64 0), ((.i .z), .int .i64 2), ((.o (.o .z)), .fn (.func 214) [] []), ((.i (.o (.o .z))), .int .i64 i)]) (fun _ => []) ?_ 1 (σ := []) (Wk.of rfl (by decide) (by simp only [go_sem, hren]; first | done | rfl | trace_state) (by simp only [go_sem])) (.inl rfl)
  rintro i (rfl | rfl)
  · simp only [go_sem]
    refine LL.st good_EM (fun _ : Nat => 0) (fun _ => True) (fun _ => [(.z, v), ((.o .z), .int .i64 0), ((.i .z), .int .i64 2), ((.o (.o .z)), .fn (.func 214) [] []), ((.i (.o (.o .z))), .int .i64 1), ((.o (.i (.o .z))), .int .i64 1)]) (fun _ => []) ?_ 0 (σ := []) (Wk.of rfl (by decide) (by simp only [go_sem, hren]; first | done | rfl | trace_state) (by simp only [go_sem])) trivial
    rintro _ _
    obtain ⟨kk, r, ex', cap', wr, rows, hv, hrho, hgo, hrow⟩ := hA.at hok (j := 1) (Nat.lt_succ_self 1)
    obtain ⟨kk', r', ex'', cap'', wr', rows', hv', hrho', hgo', hrow'⟩ := hA.at hok (j := 0) (Nat.zero_lt_succ _)
    rw [hv] at hv'
    injection hv' with e1 e2 e3 e4 e5 e6
    subst e1
    have e7 := Option.some.inj ((hgo []).symm.trans (hgo' []))
    injection e7 with e7 e8 e9
    subst e9
    have e2' : r' = r := by omega
    subst e2'
    simp only [List.getElem_cons_zero, List.getElem_cons_succ, Sh.enc, Nat.add_zero] at hrow hrow'
    have hs' := eq_false hs
    have h88 : r' * 8 + 8 = (r' + 1) * 8 := by omega
    simp only [go_sem, hv, hgo, hw10, h88, hrow, hrow', em86, hs', hw11]
    exact ⟨2, by show 2 - 2 < 2 - 1; decide, .inr rfl, _, [], rfl, Wk.of rfl (by decide) (by simp only [go_sem, hren, hv, hrho]; first | done | rfl | trace_state) (by simp only [go_sem])⟩
  · simp only [go_sem]
    exact ⟨_, rfl⟩
end Go.Proofs
/- shards in order: sorted already; one left out: walked. -/

set_option linter.all false
set_option linter.all false
set_option maxRecDepth 100000
namespace Go.Proofs
open Go Go.Ev
variable {H : Heap}

theorem f286_ok {v : AV} {hs : List Sh} (hA : Arr H 8 v (hs.map Sh.enc)) (hs2 : sorted2 hs) : FnOk Tryz.prog 286 [v, .int .i64 0, .int .i64 hs.length, .fn (.func 214) [] []] H fun r G => r = .tup [] ∧ G = H := by
  match hs, hA, hs2 with
  | [], _, _ => exact f286_one (n := 0) (by decide) _
  | [_], _, _ => exact f286_one (n := 1) (by decide) _
  | [a, b], hA, hs2 => exact f286_two hA hs2
  | _ :: _ :: _ :: _, _, h => exact absurd (show _ + 1 + 1 + 1 ≤ 1 from h) (by omega)
theorem sorted2_len {hs : List Sh} (h : sorted2 hs) : hs.length ≤ 2 := by
  match hs, h with
  | [], _ => exact Nat.zero_le _
  | [_], _ => exact Nat.le_succ 1
  | [_, _], _ => exact Nat.le_refl 2
  | _ :: _ :: _ :: _, h => exact absurd (show _ + 1 + 1 + 1 ≤ 1 from h) (by omega)
theorem f252_ok {v : AV} {hs : List Sh} (hA : Arr H 8 v (hs.map Sh.enc)) (hs2 : sorted2 hs) : FnOk Tryz.prog 252 [v, .int .i64 hs.length, .fn (.func 214) [] []] H fun r G => r = .tup [] ∧ G = H := by
  refine FnOk.drop (R := fun r => r = .tup []) ?_ (by rintro v rfl ρ; simp only [AV.ren, AV.rens])
  refine FnOk.of_WW Tryz.func252 rfl C252ok R252ok E0 good_E0 ?_
  have hren := hA.ren
  have hl := sorted2_len hs2
  have hc : ¬ (20 : Int) ≤ (hs.length : Int) := by omega
  have hc2 : ¬ (20 : Int) < (hs.length : Int) := by omega
  simp only [go_sem, C252]
  refine LL.st good_E0 (fun _ : Nat => 0) (fun _ => True) (fun _ => [(.z, v), ((.o .z), .int .i64 hs.length), ((.i .z), .fn (.func 214) [] []), ((.i (.i .z)), .int .i64 20), ((.o (.o (.o .z))), .int .i64 0), ((.i (.o (.o .z))), .int .i64 20)]) (fun _ => []) ?_ 0 (σ := []) (Wk.of rfl (by decide) (by simp only [go_sem, hren]; first | done | rfl | trace_state) (by simp only [go_sem])) trivial
  rintro _ _
  simp only [go_sem, hc]
  refine CL.of (f286_ok (hA.ext _) hs2) ?_
  rintro _ G' ⟨rfl, hG⟩; rw [hG]; clear hG
  simp only [go_sem]
  refine LL.st good_E0 (fun _ : Nat => 0) (fun _ => True) (fun _ => [((.o .z), .int .i64 hs.length), ((.i (.i .z)), .int .i64 20)]) (fun _ => []) ?_ 0 (σ := []) (Wk.of rfl (by decide) (by simp only [go_sem, hren]; first | done | rfl | trace_state) (by simp only [go_sem])) trivial
  rintro _ _
  simp only [go_sem, hc2]
  exact ⟨_, rfl⟩
theorem f213_ok {v : AV} {hs : List Sh} (hA : Arr H 8 v (hs.map Sh.enc)) (hs2 : sorted2 hs) : FnOk Tryz.prog 213 [v, .fn (.func 214) [] []] H fun r G => r = .tup [] ∧ G = H := by
  refine FnOk.drop (R := fun r => r = .tup []) ?_ (by rintro v rfl ρ; simp only [AV.ren, AV.rens])
  refine FnOk.of_WW Tryz.func213 rfl C213ok R213ok E0 good_E0 ?_
  have hlen := fun G => hA.len G
  simp only [List.length_map] at hlen
  simp only [go_sem, C213, hlen]
  refine CL.of (f252_ok (hA.ext _) hs2) ?_
  rintro _ G' ⟨rfl, hG⟩; rw [hG]; clear hG
  simp only [go_sem]
  exact ⟨_, rfl⟩
theorem f170_ok {G : Heap} {k : K} {lv gv : AV} {hs : List Sh} {gs : List Gn} (h : isHd G k lv gv hs gs) (hs2 : sorted2 hs) : FnOk Tryz.prog 170 [.ptr k 0] G fun r G' => r = .tup [] ∧ G' = G := by
  refine FnOk.drop (R := fun r => r = .tup []) ?_ (by rintro v rfl ρ; simp only [AV.ren, AV.rens])
  refine FnOk.of_WW Tryz.func170 rfl C170ok R170ok E0 good_E0 ?_
  have hk : ∀ L, (G.ext L).get k = _ := fun L => Heap.get_ext_old h.ok h.row L
  simp only [go_sem, C170, hk]
  refine CL.of (f213_ok (h.l.ext _) hs2) ?_
  rintro _ G' ⟨rfl, hG⟩; rw [hG]; clear hG
  simp only [go_sem]
  exact ⟨_, rfl⟩
/-- the only one is left out -/
theorem f220_only {G : Heap} {c : K} {s : Sh} (hok : G.ok) (hc : G.get c = some (.row true 8 [s.enc])) {g : FuncId} {caps : List AV} (hcall : ∀ args H, callC Tryz.prog g args H = .call g args)
    (hcaps : ∀ top σ, AV.ren (rho G top σ) (.fn (.func g) [] caps) = .fn (.func g) [] caps) {q : Sh → Bool} (hg : ∀ L, FnOk Tryz.prog g (.agg s.enc :: caps) (G.ext L) fun r G' => r = .bool (q s) ∧ G' = G.ext L) (hq : q s = true) :
    FnOk Tryz.prog 220 [.slice c 0 1 8 false 1, .fn (.func g) [] caps] G fun r G' => r = .slice c 0 0 8 false 1 ∧ G' = G.set c (.row true 8 [zS]) := by
  have hA : Arr G 8 (.slice c 0 1 8 false 1) ([s].map Sh.enc) := .inr ⟨c, 0, false, 1, rfl, hok c _ hc, fun _ => ⟨0, true, _, rfl, hc, rfl⟩⟩
  have hren : ∀ top σ, rho G top σ c = c := fun _ _ => rho_old (hok c _ hc)
  have hgo : ∀ L, (G.ext L).get c = _ := fun L => Heap.get_ext_old hok hc L
  refine FnOk.of_WW Tryz.func220 rfl C220ok R220ok E0 good_E0 ?_
  simp only [go_sem, C220]
  have h64 := f119_ok (q := q) hA (by show 1 ≤ 100000; decide) hcall hcaps (fun s' hs' L => by rw [List.mem_singleton.1 hs']; exact hg L)
  have hx : idx q [s] 0 = 0 := by unfold idx; rw [hq]; rfl
  rw [hx, ← Heap.ext_nil G] at h64
  have hw01 : IntKind.i64.wrap (0 + 1) = 1 := rfl
  refine CL.of h64 ?_
  rintro _ G' ⟨rfl, hG⟩
  rw [hG]
  clear hG
  simp only [go_sem, hw01]
  refine LL.st good_E0 (fun _ : Nat => 0) (fun _ => True) (fun _ => [(.z, .slice c 0 1 8 false 1), ((.o (.i .z)), .int .i64 0), ((.i (.i .z)), .int .i64 1)]) (fun _ => []) ?_ 0 (σ := []) (Wk.of rfl (by decide) (by simp only [go_sem, hren]; first | done | rfl | trace_state) (by simp only [go_sem])) trivial
  rintro _ _
  have hset := fun b (l : List Blk) (α : Type) (c' : Heap → α) => Heap.setC_here hok hc b l c'
  simp only [go_sem, hgo, hset]
  exact Heap.ext_nil _
end Go.Proofs
/- a shard put in the place of its number's: walked. -/

set_option linter.all false
set_option linter.all false
set_option maxRecDepth 100000
namespace Go.Proofs
open Go Go.Ev
variable {H : Heap}

/-- what else there was is there still; nothing else was changed -/
structure Nx (k : K) (G G' : Heap) : Prop where
  keep : ∀ j b, k ≠ j → G.get j = some b → G'.get j = some b
  own : ∀ B : Heap, (∃ L, G = B.ext L) → B.nx.toNat ≤ k.toNat → ∃ L, G' = B.ext L
  le : G.nx.toNat ≤ G'.nx.toNat
theorem Nx.trans {k : K} {A B C : Heap} (h : Nx k A B) (g : Nx k B C) : Nx k A C := ⟨fun j b hj hb => g.keep j b hj (h.keep j b hj hb), fun D hD hk => g.own D (h.own D hD hk) hk, Nat.le_trans h.le g.le⟩
theorem ext_own {B G : Heap} (hB : ∃ L, G = B.ext L) (M : List Blk) : ∃ L, G.ext M = B.ext L := by
  obtain ⟨L, rfl⟩ := hB
  exact ⟨_, Heap.ext_append ..⟩
theorem Nx.set {k : K} {G : Heap} (hok : G.ok) {c : Blk} (hk : G.get k = some c) (b : Blk) (L : List Blk) : Nx k G ((G.set k b).ext L) :=
  ⟨fun j d hj hd => Heap.get_set_there hok hd hj b L, fun _ hB hl => ext_own (set_own hok hk hB hl) L, by rw [Heap.nx_ext, Heap.toNat_key]; exact Nat.le_add_right _ _⟩
theorem Nx.ext {k : K} {G : Heap} (hok : G.ok) (L : List Blk) : Nx k G (G.ext L) := ⟨fun j d _ hd => Heap.get_ext_old hok hd L, fun _ hB _ => ext_own hB L, by rw [Heap.nx_ext, Heap.toNat_key]; exact Nat.le_add_right _ _⟩
theorem Nx.arr {k : K} {G G' : Heap} (h : Nx k G G') {wr : Bool} {rows : List (List AV)} (hk : G.get k = some (.row wr 2 rows)) {e : Nat} (he : e ≠ 2) {v : AV} {xs : List (List AV)} (hA : Arr G e v xs) : Arr G' e v xs := by
  rcases hA with g | ⟨c, off, ex, cap, hv, hc, g⟩
  · exact .inl g
  · refine .inr ⟨c, off, ex, cap, hv, Nat.lt_of_lt_of_le hc h.le, fun hx => ?_⟩
    obtain ⟨r, wr', rows', h1, h2, h3⟩ := g hx
    refine ⟨r, wr', rows', h1, h.keep c _ ?_ h2, h3⟩
    rintro rfl
    rw [hk] at h2
    injection h2 with h2
    injection h2 with _ h2 _
    exact he h2.symm
theorem Nx.sh {k : K} {G G' : Heap} (h : Nx k G G') {wr : Bool} {rows : List (List AV)} (hk : G.get k = some (.row wr 2 rows)) {s : Sh} (hs : s.ok G) (hb : smallS s) : s.ok G' :=
  ⟨h.arr hk (by decide) hs.c, h.arr hk (by decide) hs.e, h.arr hk (by decide) hs.d, bareL.ok hb.b _, hs.cl, hs.el, hs.dl⟩
section
variable {G : Heap} {k : K} {lv gv : AV} {hs : List Sh} {gs : List Gn}
theorem gone_set (h : isHd G k lv gv hs gs) (b : Blk) : Arr (G.set k b) 2 gv (gs.map Gn.enc) := by
  rcases h.g with g | ⟨j, off, ex, cap, hv, hj, g⟩
  · exact .inl g
  · refine .inr ⟨j, off, ex, cap, hv, hj, fun hx => ?_⟩
    obtain ⟨r, wr', rows', h1, h2, h3⟩ := g hx
    refine ⟨r, wr', rows', h1, ?_, h3⟩
    rw [Heap.get_set, if_neg fun e => ?_]
    · exact h2
    · subst e
      have h4 := h.row
      rw [h2] at h4
      have h5 := Option.some.inj h4
      injection h5 with _ _ h5
      subst h5
      have hl := h.l
      cases gs with
      | nil => exact hx rfl
      | cons c l =>
        cases r with
        | zero =>
          have h6 := congrArg (fun z => z[0]?) h3
          simp only [List.map_cons, List.length_cons, List.drop_zero, List.take_succ_cons, List.getElem?_cons_zero, Gn.enc] at h6
          have h7 := Option.some.inj h6
          injection h7 with h7 _
          subst h7
          rcases hl with ⟨e, _⟩ | ⟨_, _, _, _, e, _⟩ <;> cases e
        | succ r => simp at h3
theorem ok_set' {s : Sh} (h : isHd G k lv gv hs gs) (hs' : s.ok G) (hb : smallS s) (b : Blk) : s.ok (G.set k b) :=
  ⟨hs'.c.set h.row (by decide), hs'.e.set h.row (by decide), hs'.d.set h.row (by decide), bareL.ok hb.b _, hs'.cl, hs'.el, hs'.dl⟩
theorem isHd.put {hs' : List Sh} (h : isHd G k lv gv hs gs) {L : List Blk} {j : Nat} (hj : L[j]? = some (.row true 8 (hs'.map Sh.enc))) (ho : ∀ s ∈ hs', s.ok G) (hsm : ∀ s ∈ hs', smallS s) (hl : hs'.length ≤ 8) (cap : Nat) (ex : Bool) :
    isHd ((G.set k (.row true 2 [[.slice (G.key j) 0 hs'.length 8 ex cap, gv]])).ext L) k (.slice (G.key j) 0 hs'.length 8 ex cap) gv hs' gs := by
  have hok := Heap.ok_ext (Heap.ok_set h.ok h.row (b := .row true 2 [[.slice (G.key j) 0 hs'.length 8 ex cap, gv]])) L
  have hjl := (List.getElem?_eq_some_iff.1 hj).1
  have hg : ((G.set k (.row true 2 [[.slice (G.key j) 0 hs'.length 8 ex cap, gv]])).ext L).get (G.key j) = some (.row true 8 (hs'.map Sh.enc)) := by rw [Heap.get_key_set hjl, hj]
  refine ⟨hok, Heap.get_set_here h.ok h.row _ L, .inr ⟨G.key j, 0, ex, cap, by rw [List.length_map], hok _ _ hg, fun _ => ⟨0, true, _, rfl, hg, ?_⟩⟩, (gone_set h _).ext L, fun s hs => (ok_set' h (ho s hs) (hsm s hs) _).ext L, hsm, hl, h.few.2⟩
  rw [List.drop_zero, List.take_length]
theorem f222_ok {H : Heap} {c : K} {wr : Bool} {s : Sh} (hk : H.get c = some (.row wr 8 [s.enc])) (o : Sh) : FnOk Tryz.prog 222 [.agg o.enc, .ptr c 0] H fun r G => r = .bool (decide (o.id = s.id)) ∧ G = H := by
  refine FnOk.assume fun hok => ?_
  refine FnOk.drop (R := fun r => r = .bool (decide (o.id = s.id))) ?_ (by rintro v rfl ρ; rw [AV.ren])
  refine FnOk.of_WW Tryz.func222 rfl C222ok R222ok E0 good_E0 ?_
  have hgo := Heap.get_ext_old hok hk
  simp only [Sh.enc] at hgo
  simp only [go_sem, C222, Sh.enc, hgo]
  exact ⟨fun h => ⟨bool_t h, _, rfl⟩, fun h => ⟨bool_f h, _, rfl⟩⟩
theorem clo97 : CloFn Tryz.prog 221 8 128 [.int .i64 0, .int .i64 0, .str [], .str [], .bool false, .nils, .nils, .nils] := ⟨⟨Tryz.f221, Tryz.func221, by kernel_rfl, by kernel_rfl⟩, rfl, by decide⟩
theorem shs_rens {l : List Sh} (h : ∀ s ∈ l, s.ok G) (top : Nat) (σ : List Nat) : (l.map Sh.enc).map (AV.rens (rho G top σ)) = l.map Sh.enc := by
  rw [List.map_map]
  exact List.map_congr_left fun s hs => (h s hs).ren top σ
end
end Go.Proofs
/- errors.As, of numbers: by its contract, as a law of memories. -/

set_option linter.all false
set_option linter.all false
set_option maxRecDepth 100000
namespace Go.Proofs
open Go Go.Ev
variable {H : Heap}

section
variable {P : Program} {φ : Phi} {w : World}
theorem cell_of_row (hw : WRel P φ H w) {k : K} {x : AV} {a : At} (hk : H.get k = some (.row true 1 [[x]])) (hφ : φ k = some a) : ∃ v, w.cell? ⟨a.b, a.o, none⟩ = some v ∧ VRel P φ x v ∧ w.frozen? ⟨a.b, a.o, none⟩ = false := by
  obtain ⟨hp, _, pre, vs, post, e, lo, hi, g1, g2, g3, g4, g5, g6⟩ := hw.blk k _ a hk hφ
  have g5 : VRels P φ [x] vs := g5
  cases g5 with
  | cons _ _ v l h1 h2 =>
    cases h2
    refine ⟨v, ?_, h1, ?_⟩
    · simp only [World.cell?, g1]
      simp [← g2]
    · simp only [World.frozen?, g1]
      have h4 := g4 rfl
      simp at g3 ⊢
      omega
/-- a call that writes a number into a cell -/
theorem FnOk.of_calls_set {f : FuncId} {args : List AV} {k : K} {x y v : AV} {y' : Value} (hk : H.get k = some (.row true 1 [[x]])) (hy : ∀ φ, VRel P φ y y') (hone : y'.oneCell' = true) (hv : ∀ φ, ∃ v', VRel P φ v v')
    (h : ∀ φ w args', VRels P φ args args'.toList → WRel P φ H w → ∃ a, φ k = some a ∧ ∀ old, w.cell? ⟨a.b, a.o, none⟩ = some old → w.frozen? ⟨a.b, a.o, none⟩ = false →
      Calls P f args' w fun e u => (∃ v', e = .returned v' ∧ VRel P φ v v') ∧ ∃ w4, Grows w w4 ∧ u = w4.setCell ⟨a.b, a.o, none⟩ y') :
    FnOk P f args H fun r G => r = v ∧ G = H.set k (.row true 1 [[y]]) := by
  intro φ w args' ha hw
  obtain ⟨a, hφ, hc⟩ := h φ w args' ha hw
  obtain ⟨old, h1, _, h2⟩ := cell_of_row hw hk hφ
  refine (hc old h1 h2).mono ?_
  rintro e u ⟨⟨v', rfl, hv'⟩, w4, hg, rfl⟩
  have hw4 := hw.grows hg.size hg.old
  obtain ⟨old4, h14, _, h24⟩ := cell_of_row hw4 hk hφ
  obtain ⟨u, hst, hwu, hE⟩ := storeCells_sound (off := 0) (vals := [y]) (vals' := [y']) (rows' := [[y]]) hw4 hk hφ (.cons _ _ _ _ (hy φ) .nil) (by intro z hz; rw [List.mem_singleton.1 hz]; exact hone) (put_rows 1 [[x]] [[y]] 0 (by intro z hz; rw [List.mem_singleton.1 hz]; rfl) (by intro z hz; rw [List.mem_singleton.1 hz]; rfl) (Nat.le_refl 1))
  have hst' : (storeCells ⟨a.b, a.o, none⟩ [y']).run P w4 = .ok () (w4.setCell ⟨a.b, a.o, none⟩ y') := by
    simp only [storeCells, Addr.add, Sem.run_bind, Nat.add_zero, if_true]
    rw [run_store P w4 _ _ _ hone, h14]
    simp [h24]
  rw [Nat.add_zero] at hst
  rw [hst] at hst'
  injection hst' with _ hu
  subst hu
  refine ⟨v, _, ⟨rfl, rfl⟩, φ, v', rfl, hv', hwu, ?_⟩
  exact ⟨hE.phi, hE.nx, Nat.le_trans hg.size hE.size, fun b hb hn => by rw [hE.keeps b (Nat.lt_of_lt_of_le hb hg.size) hn, hg.old b hb], hE.hidden, fun b hb ho => hE.own b (Nat.lt_of_lt_of_le hb hg.size) ho, hE.os.trans hg.os, hE.tape.trans hg.tape, hE.output.trans hg.output⟩
end
theorem f113_none (x : AV) : FnOk Tryz.prog 113 [.nili, x] H fun r G => r = .bool false ∧ G = H := by
  refine FnOk.of_calls fun φ w args' ha hw => ?_
  obtain ⟨v, u, rfl, h1, h2⟩ := two_args ha
  have e1 := errV_inv (e := none) h1
  obtain rfl : v = .nilIface := e1
  refine (as_nil u w).mono ?_
  rintro e w' ⟨rfl, rfl⟩
  exact ⟨⟨_, rfl, .bool _⟩, Grows.refl _⟩
end Go.Proofs
/- a shard of an epoch; what is done to a shard that is there: walked. -/

set_option linter.all false
set_option linter.all false
set_option maxRecDepth 100000
namespace Go.Proofs
open Go Go.Ev
variable {H : Heap}

section
variable {G : Heap} {k : K} {lv gv : AV} {hs : List Sh} {gs : List Gn}
theorem idx_one {α : Type} {q : α → Bool} {s : α} (h : q s = true) : idx q [s] 0 = ((0 : Nat) : Int) := by unfold idx; rw [h]; rfl
end
end Go.Proofs
