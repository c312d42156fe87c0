/- index: the law of rows, walked. -/
import Derived.Test.YtiadcabmonbgiaaZ13
import Derived.ProofKit
import Derived.Deep.Slices
import Derived.Test.YtiadcabmonbgiaaRows
set_option linter.all false
set_option maxRecDepth 100000
namespace Go.Proofs
open Go Go.Ev
variable {H : Heap}

theorem e22_out {L : List Blk} {i : Nat} {acc : List Cell} (h : L[i]? = some (outB 5 (acc.map Cell.enc))) (hl : acc.length < 4294967295) (c : Cell) :
    EI 22 [outV (H.key i) 5 acc.length, .agg [.str c.key, .str c.value, .int .i64 c.ver, .bool c.del, .int .i64 c.floor]] (H.ext L) = .ok (outV (H.key L.length) 5 (withC acc c).length) (H.ext (L ++ [outB 5 ((withC acc c).map Cell.enc)])) := by
  have harr := outB_arr (H := H) h
  rw [List.length_map] at harr
  rw [e22 harr hl c, Heap.nx_ext, Heap.ext_append]
  cases acc with
  | nil => rfl
  | cons x xs =>
    have hp := withC_pos (l := x :: xs) (c := c) (by simp)
    rw [outV_pos hp]
    have : outB 5 ((withC (x :: xs) c).map Cell.enc) = .row true 5 ((withC (x :: xs) c).map Cell.enc) := outB_pos (by rw [List.length_map]; exact hp)
    rw [this]; rfl
/-- a number, in a cell -/
def intC (j : Nat) : List AV := [.int .i64 (j : Int)]
theorem intC_rens (ρ : K → K) (l : List Nat) : (l.map intC).map (AV.rens ρ) = l.map intC := by
  rw [List.map_map]
  refine List.map_congr_left fun j _ => ?_
  show [AV.ren ρ (.int .i64 (j : Int))] = _
  rw [AV.ren]; rfl
theorem intC_ren1 (ρ : K → K) (j : Nat) : AV.rens ρ (intC j) = intC j := by show [AV.ren ρ (.int .i64 (j : Int))] = _; rw [AV.ren]; rfl
/-- a mark's row -/
def rowC (j : Nat) : List AV := [.str [97 + j], .str [], .int .i64 ((j + 1 : Nat) : Int)]
theorem row_mark (ws : List Nat) : (ws.map fun j => markC j false).map Cell.row = ws.map rowC := by rw [List.map_map]; rfl
theorem rowC_rens (ρ : K → K) (ws : List Nat) : (ws.map rowC).map (AV.rens ρ) = ws.map rowC := by rw [← row_mark]; exact Cell.map_row _ _
theorem wantL_succ {l : List Bool} {i x y : Nat} : wantL l x y (i + 1) = wantL l x y i ++ if l[i]? = some false ∧ x ≤ 97 + i ∧ 97 + i < y then [i] else [] := by
  unfold wantL
  rw [List.range_succ, List.filter_append]
  congr 1
  by_cases h : l[i]? = some false ∧ x ≤ 97 + i ∧ 97 + i < y
  · rw [if_pos h, List.filter_cons_of_pos (by exact decide_eq_true h)]; rfl
  · rw [if_neg h, List.filter_cons_of_neg (by simpa using h)]; rfl
theorem want_yes {l : List Bool} {i x y : Nat} {n : Int} (hlt : i < l.length) (hd : l[i] = false) (h1 : x ≤ 97 + i) (h2 : 97 + i < y) (h3 : (((wantL l x y i).take n.toNat).length : Int) < n) :
    (wantL l x y (i + 1)).take n.toNat = (wantL l x y i).take n.toNat ++ [i] := by
  rw [wantL_succ, if_pos ⟨by rw [List.getElem?_eq_getElem hlt, hd], h1, h2⟩]
  exact takeN_lt _ (by omega)
theorem want_no {l : List Bool} {i x y : Nat} {n : Int} (hlt : i < l.length) (h : ¬ (l[i] = false ∧ x ≤ 97 + i ∧ 97 + i < y ∧ (((wantL l x y i).take n.toNat).length : Int) < n)) :
    (wantL l x y (i + 1)).take n.toNat = (wantL l x y i).take n.toNat := by
  rw [wantL_succ]
  by_cases h1 : l[i]? = some false ∧ x ≤ 97 + i ∧ 97 + i < y
  · rw [if_pos h1]
    refine takeN_ge _ fun h2 => h ⟨?_, h1.2.1, h1.2.2, by omega⟩
    have := h1.1
    rw [List.getElem?_eq_getElem hlt] at this
    exact Option.some.inj this
  · rw [if_neg h1, List.append_nil]
theorem want_len (l : List Bool) (x y i m : Nat) : ((wantL l x y i).take m).length ≤ i := by
  rw [List.length_take]
  refine Nat.le_trans (Nat.min_le_right _ _) ?_
  unfold wantL
  exact Nat.le_trans (List.length_filter_le _ _) (by rw [List.length_range]; exact Nat.le_refl _)
theorem f5_ok {v : AV} {l : List Bool} (hA : Arr H 1 v (l.map fun d => [AV.bool d])) (a b n : Int) :
    FnOk Try.prog 5 [v, .int .u8 a, .int .u8 b, .int .i64 n] H fun r G => r = .bool true ∧ G = H := by
  refine FnOk.assume fun hok => ?_
  refine FnOk.drop (R := fun r => r = .bool true) ?_ (by rintro v rfl ρ; rw [AV.ren])
  refine FnOk.of_WW Try.func5 rfl C5ok R5ok EI good_EI ?_
  have hlen := fun G => hA.len G
  simp only [List.length_map] at hlen
  have hren := hA.ren
  obtain ⟨x, hx, hx0, hx1⟩ : ∃ x : Nat, IntKind.i64.wrap (97 + ((x : Int) - 97)) = (x : Int) ∧ (IntKind.i64.wrap a).tmod 27 = (x : Int) - 97 ∧ x ≤ 255 := by
    have h1 := Int.tmod_lt_of_pos (IntKind.i64.wrap a) (b := 27) (by decide)
    have h2 := Int.lt_tmod_of_pos (IntKind.i64.wrap a) (b := 27) (by decide)
    refine ⟨(97 + (IntKind.i64.wrap a).tmod 27).toNat, ?_, by omega, by omega⟩
    rw [wrap_i64 (by omega) (by omega)]; omega
  obtain ⟨y, hy, hy0, hy1⟩ : ∃ x : Nat, IntKind.i64.wrap (97 + ((x : Int) - 97)) = (x : Int) ∧ (IntKind.i64.wrap b).tmod 27 = (x : Int) - 97 ∧ x ≤ 255 := by
    have h1 := Int.tmod_lt_of_pos (IntKind.i64.wrap b) (b := 27) (by decide)
    have h2 := Int.lt_tmod_of_pos (IntKind.i64.wrap b) (b := 27) (by decide)
    refine ⟨(97 + (IntKind.i64.wrap b).tmod 27).toNat, ?_, by omega, by omega⟩
    rw [wrap_i64 (by omega) (by omega)]; omega
  have hbx := wrap_u8 hx1
  have hby := wrap_u8 hy1
  have hcx := fun c => bytesC_one hx1 R1.fail c
  have hcy := fun c => bytesC_one hy1 R1.fail c
  simp only [go_sem, C5, Nat.reduceAdd, Nat.reduceSub, Nat.reduceMul, Nat.reduceDiv, Nat.reduceMod, Nat.reduceEqDiff, Nat.reduceLeDiff, Nat.reduceLT, Int.reduceLT, Int.reduceLE, Int.reduceEq, Int.reduceToNat, reduceIte, reduceCtorEq]
  refine CL.one f11_ok ?_
  simp only [go_sem, Nat.reduceAdd, Nat.reduceSub, Nat.reduceMul, Nat.reduceDiv, Nat.reduceMod, Nat.reduceEqDiff, Nat.reduceLeDiff, Nat.reduceLT, Int.reduceLT, Int.reduceLE, Int.reduceEq, Int.reduceToNat, reduceIte, reduceCtorEq, hlen]
  refine ⟨fun h1 => ⟨_, rfl⟩, fun h1 => ?_⟩
  refine LL.st good_EI (fun i : Nat => i) (fun i => i ≤ l.length)
    (fun i => [(.z, v), ((.o .z), .int .u8 a), ((.i .z), .int .u8 b), ((.o (.o .z)), .int .i64 n), ((.o (.i (.o .z))), outV (H.key 0) 5 (markL (l.drop i) i).length), ((.i (.i (.o .z))), .int .i64 ((i : Int) - 1))])
    (fun i => [outB 5 ((markL (l.drop i) i).map Cell.enc)]) ?_ l.length (σ := [0]) ?_ (Nat.le_refl _)
  · rintro i hi
    rcases i with _ | i
    · simp only [go_sem, C5L0, Nat.reduceAdd, Nat.reduceSub, Nat.reduceMul, Nat.reduceDiv, Nat.reduceMod, Nat.reduceEqDiff, Nat.reduceLeDiff, Nat.reduceLT, Int.reduceLT, Int.reduceLE, Int.reduceEq, Int.reduceToNat, reduceIte, reduceCtorEq, List.length_nil, List.map_nil, List.length_cons, List.map_cons, List.replicate_succ, List.replicate_zero, List.set_cons_zero, List.set_cons_succ, List.take_succ_cons, List.take_zero, List.take_nil, List.length_append, List.map_append, List.cons_append, List.nil_append, List.drop_succ_cons, List.drop_zero, List.append_nil, List.getElem?_cons_zero, List.getElem?_cons_succ, Int.ofNat_zero, Int.zero_sub, Int.reduceNeg, hx0, hx, hy0, hy, hbx, hby, hcx, hcy]
      refine LL.st good_EI (fun i : Nat => l.length - i) (fun i => i ≤ l.length) (fun i => [(.z, v), ((.o (.o .z)), .int .i64 n), ((.o (.i (.o .z))), outV (H.key 0) 5 (markL l 0).length), ((.o (.o (.i .z))), .int .i64 ((x : Int) - 97)), ((.i (.o (.i .z))), .int .i64 ((y : Int) - 97)), ((.o (.i (.i .z))), .ptr (H.key 1) 0), ((.i (.i (.i .z))), outV (H.key 2) 1 (((wantL l x y i).take n.toNat)).length), ((.o (.o (.o (.o .z)))), .int .i64 i)]) (fun i => [outB 5 ((markL l 0).map Cell.enc), .row true 2 [[.str [x], .str [y]]], outB 1 (((wantL l x y i).take n.toNat).map intC)]) ?_ 0 (σ := [0, 3, 1]) ?_ (Nat.zero_le _)
      · rintro i hi
        by_cases hlt : i < l.length
        · obtain ⟨kk, r, ex', cap', wr, rows, hv, hrho, hgo, hrow⟩ := hA.at hok (j := i) (by simpa using hlt)
          simp only [List.length_map, List.getElem_map] at hv hrow
          cases hv
          have hw := wrap_succ (n := i) (by omega)
          have hci : (i : Int) < (l.length : Int) := by omega
          have hsi : i + 1 ≤ l.length := by omega
          cases hd : l[i]
          · rw [hd] at hrow
            simp only [go_sem, ↓appR_hide, C5L1, Nat.reduceAdd, Nat.reduceSub, Nat.reduceMul, Nat.reduceDiv, Nat.reduceMod, Nat.reduceEqDiff, Nat.reduceLeDiff, Nat.reduceLT, Int.reduceLT, Int.reduceLE, Int.reduceEq, Int.reduceToNat, reduceIte, reduceCtorEq, List.length_nil, List.map_nil, List.length_cons, List.map_cons, List.replicate_succ, List.replicate_zero, List.set_cons_zero, List.set_cons_succ, List.take_succ_cons, List.take_zero, List.take_nil, List.length_append, List.map_append, List.cons_append, List.nil_append, List.drop_succ_cons, List.drop_zero, List.append_nil, List.getElem?_cons_zero, List.getElem?_cons_succ, hlen, hgo, hrow, hci, hsi, hw]
            refine ⟨fun g1 => ⟨fun g2 => ⟨fun g3 => ?_, fun g3 => ?_⟩, fun g2 => ?_⟩, fun g1 => ?_⟩
            · have hnew := want_yes hlt hd (x := x) (y := y) (n := n) (by omega) (by omega) g3
              refine RW_app _ (intC i) rfl (List.length_map ..) rfl (okBig_le (by have := want_len l x y i n.toNat; omega) (by decide)) ?_
              simp only [go_sem, Nat.reduceAdd, Nat.reduceSub, Nat.reduceMul, Nat.reduceDiv, Nat.reduceMod, Nat.reduceEqDiff, Nat.reduceLeDiff, Nat.reduceLT, Int.reduceLT, Int.reduceLE, Int.reduceEq, Int.reduceToNat, reduceIte, reduceCtorEq, List.length_nil, List.map_nil, List.length_cons, List.map_cons, List.replicate_succ, List.replicate_zero, List.set_cons_zero, List.set_cons_succ, List.take_succ_cons, List.take_zero, List.take_nil, List.length_append, List.map_append, List.cons_append, List.nil_append, List.drop_succ_cons, List.drop_zero, List.append_nil, List.getElem?_cons_zero, List.getElem?_cons_succ, hw]
              refine ⟨i + 1, by show l.length - (i + 1) < l.length - i; omega, ?_, _, [0, 1, 4], rfl, Wk.of rfl (by decide) (by simp only [go_sem, outV_ren', hrho, hnew, List.length_map, List.length_nil, List.map_nil, List.length_cons, List.map_cons, List.replicate_succ, List.replicate_zero, List.set_cons_zero, List.set_cons_succ, List.take_succ_cons, List.take_zero, List.take_nil, List.length_append, List.map_append, List.cons_append, List.nil_append, List.drop_succ_cons, List.drop_zero, List.append_nil, List.getElem?_cons_zero, List.getElem?_cons_succ, Nat.reduceAdd, Nat.reduceSub, Nat.reduceMul, Nat.reduceDiv, Nat.reduceMod, Nat.reduceEqDiff, Nat.reduceLeDiff, Nat.reduceLT, Int.reduceLT, Int.reduceLE, Int.reduceEq, Int.reduceToNat, reduceIte, reduceCtorEq]) (by simp only [go_sem, ↓outB_ren', intC_rens, intC_ren1, Cell.map_rens, rowC_rens, implies_true, hrho, hnew, List.map_append, List.map_cons, List.map_nil, List.length_nil, List.map_nil, List.length_cons, List.map_cons, List.replicate_succ, List.replicate_zero, List.set_cons_zero, List.set_cons_succ, List.take_succ_cons, List.take_zero, List.take_nil, List.length_append, List.map_append, List.cons_append, List.nil_append, List.drop_succ_cons, List.drop_zero, List.append_nil, List.getElem?_cons_zero, List.getElem?_cons_succ, Nat.reduceAdd, Nat.reduceSub, Nat.reduceMul, Nat.reduceDiv, Nat.reduceMod, Nat.reduceEqDiff, Nat.reduceLeDiff, Nat.reduceLT, Int.reduceLT, Int.reduceLE, Int.reduceEq, Int.reduceToNat, reduceIte, reduceCtorEq, eq_self, true_implies, not_true_eq_false, not_false_eq_true, false_implies, and_true, true_and, decide_true, decide_false, Bool.not_true, Bool.not_false])⟩
              omega
            · have hnew := want_no hlt (x := x) (y := y) (n := n) (fun g => g3 g.2.2.2)
              refine ⟨i + 1, by show l.length - (i + 1) < l.length - i; omega, ?_, _, [0, 1, 2], rfl, Wk.of rfl (by decide) (by simp only [go_sem, outV_ren', hrho, hnew, List.length_map, List.length_nil, List.map_nil, List.length_cons, List.map_cons, List.replicate_succ, List.replicate_zero, List.set_cons_zero, List.set_cons_succ, List.take_succ_cons, List.take_zero, List.take_nil, List.length_append, List.map_append, List.cons_append, List.nil_append, List.drop_succ_cons, List.drop_zero, List.append_nil, List.getElem?_cons_zero, List.getElem?_cons_succ, Nat.reduceAdd, Nat.reduceSub, Nat.reduceMul, Nat.reduceDiv, Nat.reduceMod, Nat.reduceEqDiff, Nat.reduceLeDiff, Nat.reduceLT, Int.reduceLT, Int.reduceLE, Int.reduceEq, Int.reduceToNat, reduceIte, reduceCtorEq]) (by simp only [go_sem, ↓outB_ren', intC_rens, intC_ren1, Cell.map_rens, rowC_rens, implies_true, hrho, hnew, List.map_append, List.map_cons, List.map_nil, List.length_nil, List.map_nil, List.length_cons, List.map_cons, List.replicate_succ, List.replicate_zero, List.set_cons_zero, List.set_cons_succ, List.take_succ_cons, List.take_zero, List.take_nil, List.length_append, List.map_append, List.cons_append, List.nil_append, List.drop_succ_cons, List.drop_zero, List.append_nil, List.getElem?_cons_zero, List.getElem?_cons_succ, Nat.reduceAdd, Nat.reduceSub, Nat.reduceMul, Nat.reduceDiv, Nat.reduceMod, Nat.reduceEqDiff, Nat.reduceLeDiff, Nat.reduceLT, Int.reduceLT, Int.reduceLE, Int.reduceEq, Int.reduceToNat, reduceIte, reduceCtorEq, eq_self, true_implies, not_true_eq_false, not_false_eq_true, false_implies, and_true, true_and, decide_true, decide_false, Bool.not_true, Bool.not_false])⟩
              omega
            · have hnew := want_no hlt (x := x) (y := y) (n := n) (fun g => g2 (by omega))
              refine ⟨i + 1, by show l.length - (i + 1) < l.length - i; omega, ?_, _, [0, 1, 2], rfl, Wk.of rfl (by decide) (by simp only [go_sem, outV_ren', hrho, hnew, List.length_map, List.length_nil, List.map_nil, List.length_cons, List.map_cons, List.replicate_succ, List.replicate_zero, List.set_cons_zero, List.set_cons_succ, List.take_succ_cons, List.take_zero, List.take_nil, List.length_append, List.map_append, List.cons_append, List.nil_append, List.drop_succ_cons, List.drop_zero, List.append_nil, List.getElem?_cons_zero, List.getElem?_cons_succ, Nat.reduceAdd, Nat.reduceSub, Nat.reduceMul, Nat.reduceDiv, Nat.reduceMod, Nat.reduceEqDiff, Nat.reduceLeDiff, Nat.reduceLT, Int.reduceLT, Int.reduceLE, Int.reduceEq, Int.reduceToNat, reduceIte, reduceCtorEq]) (by simp only [go_sem, ↓outB_ren', intC_rens, intC_ren1, Cell.map_rens, rowC_rens, implies_true, hrho, hnew, List.map_append, List.map_cons, List.map_nil, List.length_nil, List.map_nil, List.length_cons, List.map_cons, List.replicate_succ, List.replicate_zero, List.set_cons_zero, List.set_cons_succ, List.take_succ_cons, List.take_zero, List.take_nil, List.length_append, List.map_append, List.cons_append, List.nil_append, List.drop_succ_cons, List.drop_zero, List.append_nil, List.getElem?_cons_zero, List.getElem?_cons_succ, Nat.reduceAdd, Nat.reduceSub, Nat.reduceMul, Nat.reduceDiv, Nat.reduceMod, Nat.reduceEqDiff, Nat.reduceLeDiff, Nat.reduceLT, Int.reduceLT, Int.reduceLE, Int.reduceEq, Int.reduceToNat, reduceIte, reduceCtorEq, eq_self, true_implies, not_true_eq_false, not_false_eq_true, false_implies, and_true, true_and, decide_true, decide_false, Bool.not_true, Bool.not_false])⟩
              omega
            · have hnew := want_no hlt (x := x) (y := y) (n := n) (fun g => g1 (by omega))
              refine ⟨i + 1, by show l.length - (i + 1) < l.length - i; omega, ?_, _, [0, 1, 2], rfl, Wk.of rfl (by decide) (by simp only [go_sem, outV_ren', hrho, hnew, List.length_map, List.length_nil, List.map_nil, List.length_cons, List.map_cons, List.replicate_succ, List.replicate_zero, List.set_cons_zero, List.set_cons_succ, List.take_succ_cons, List.take_zero, List.take_nil, List.length_append, List.map_append, List.cons_append, List.nil_append, List.drop_succ_cons, List.drop_zero, List.append_nil, List.getElem?_cons_zero, List.getElem?_cons_succ, Nat.reduceAdd, Nat.reduceSub, Nat.reduceMul, Nat.reduceDiv, Nat.reduceMod, Nat.reduceEqDiff, Nat.reduceLeDiff, Nat.reduceLT, Int.reduceLT, Int.reduceLE, Int.reduceEq, Int.reduceToNat, reduceIte, reduceCtorEq]) (by simp only [go_sem, ↓outB_ren', intC_rens, intC_ren1, Cell.map_rens, rowC_rens, implies_true, hrho, hnew, List.map_append, List.map_cons, List.map_nil, List.length_nil, List.map_nil, List.length_cons, List.map_cons, List.replicate_succ, List.replicate_zero, List.set_cons_zero, List.set_cons_succ, List.take_succ_cons, List.take_zero, List.take_nil, List.length_append, List.map_append, List.cons_append, List.nil_append, List.drop_succ_cons, List.drop_zero, List.append_nil, List.getElem?_cons_zero, List.getElem?_cons_succ, Nat.reduceAdd, Nat.reduceSub, Nat.reduceMul, Nat.reduceDiv, Nat.reduceMod, Nat.reduceEqDiff, Nat.reduceLeDiff, Nat.reduceLT, Int.reduceLT, Int.reduceLE, Int.reduceEq, Int.reduceToNat, reduceIte, reduceCtorEq, eq_self, true_implies, not_true_eq_false, not_false_eq_true, false_implies, and_true, true_and, decide_true, decide_false, Bool.not_true, Bool.not_false])⟩
              omega
          · rw [hd] at hrow
            simp only [go_sem, ↓appR_hide, C5L1, Nat.reduceAdd, Nat.reduceSub, Nat.reduceMul, Nat.reduceDiv, Nat.reduceMod, Nat.reduceEqDiff, Nat.reduceLeDiff, Nat.reduceLT, Int.reduceLT, Int.reduceLE, Int.reduceEq, Int.reduceToNat, reduceIte, reduceCtorEq, List.length_nil, List.map_nil, List.length_cons, List.map_cons, List.replicate_succ, List.replicate_zero, List.set_cons_zero, List.set_cons_succ, List.take_succ_cons, List.take_zero, List.take_nil, List.length_append, List.map_append, List.cons_append, List.nil_append, List.drop_succ_cons, List.drop_zero, List.append_nil, List.getElem?_cons_zero, List.getElem?_cons_succ, hlen, hgo, hrow, hci, hsi, hw]
            have hnew := want_no hlt (x := x) (y := y) (n := n) (fun g => by rw [hd] at g; exact absurd g.1 (by decide))
            refine ⟨i + 1, by show l.length - (i + 1) < l.length - i; omega, ?_, _, [0, 1, 2], rfl, Wk.of rfl (by decide) (by simp only [go_sem, outV_ren', hrho, hnew, List.length_map, List.length_nil, List.map_nil, List.length_cons, List.map_cons, List.replicate_succ, List.replicate_zero, List.set_cons_zero, List.set_cons_succ, List.take_succ_cons, List.take_zero, List.take_nil, List.length_append, List.map_append, List.cons_append, List.nil_append, List.drop_succ_cons, List.drop_zero, List.append_nil, List.getElem?_cons_zero, List.getElem?_cons_succ, Nat.reduceAdd, Nat.reduceSub, Nat.reduceMul, Nat.reduceDiv, Nat.reduceMod, Nat.reduceEqDiff, Nat.reduceLeDiff, Nat.reduceLT, Int.reduceLT, Int.reduceLE, Int.reduceEq, Int.reduceToNat, reduceIte, reduceCtorEq]) (by simp only [go_sem, ↓outB_ren', intC_rens, intC_ren1, Cell.map_rens, rowC_rens, implies_true, hrho, hnew, List.map_append, List.map_cons, List.map_nil, List.length_nil, List.map_nil, List.length_cons, List.map_cons, List.replicate_succ, List.replicate_zero, List.set_cons_zero, List.set_cons_succ, List.take_succ_cons, List.take_zero, List.take_nil, List.length_append, List.map_append, List.cons_append, List.nil_append, List.drop_succ_cons, List.drop_zero, List.append_nil, List.getElem?_cons_zero, List.getElem?_cons_succ, Nat.reduceAdd, Nat.reduceSub, Nat.reduceMul, Nat.reduceDiv, Nat.reduceMod, Nat.reduceEqDiff, Nat.reduceLeDiff, Nat.reduceLT, Int.reduceLT, Int.reduceLE, Int.reduceEq, Int.reduceToNat, reduceIte, reduceCtorEq, eq_self, true_implies, not_true_eq_false, not_false_eq_true, false_implies, and_true, true_and, decide_true, decide_false, Bool.not_true, Bool.not_false])⟩
            omega
        · have hil : i = l.length := by omega
          subst hil
          have hci : ¬ (l.length : Int) < (l.length : Int) := by omega
          have harr : ∀ L : List Blk, L[0]? = some (outB 5 ((markL l 0).map Cell.enc)) → Arr (H.ext L) 5 (outV (H.key 0) 5 (markL l 0).length) ((markL l 0).map Cell.enc) := fun L h => by
            have := outB_arr (H := H) h
            rwa [List.length_map] at this
          have hml := markL_len l 0
          simp only [go_sem, C5L1, Nat.reduceAdd, Nat.reduceSub, Nat.reduceMul, Nat.reduceDiv, Nat.reduceMod, Nat.reduceEqDiff, Nat.reduceLeDiff, Nat.reduceLT, Int.reduceLT, Int.reduceLE, Int.reduceEq, Int.reduceToNat, reduceIte, reduceCtorEq, List.length_nil, List.map_nil, List.length_cons, List.map_cons, List.replicate_succ, List.replicate_zero, List.set_cons_zero, List.set_cons_succ, List.take_succ_cons, List.take_zero, List.take_nil, List.length_append, List.map_append, List.cons_append, List.nil_append, List.drop_succ_cons, List.drop_zero, List.append_nil, List.getElem?_cons_zero, List.getElem?_cons_succ, hlen, hci]
          refine CL.one (padV' (List.length_map ..) (Cell.map_row · _) (f15_ok (harr _ rfl) (by omega) [x] [y] n)) ?_
          simp only [go_sem, Nat.reduceAdd, Nat.reduceSub, Nat.reduceMul, Nat.reduceDiv, Nat.reduceMod, Nat.reduceEqDiff, Nat.reduceLeDiff, Nat.reduceLT, Int.reduceLT, Int.reduceLE, Int.reduceEq, Int.reduceToNat, reduceIte, reduceCtorEq, List.length_nil, List.map_nil, List.length_cons, List.map_cons, List.replicate_succ, List.replicate_zero, List.set_cons_zero, List.set_cons_succ, List.take_succ_cons, List.take_zero, List.take_nil, List.length_append, List.map_append, List.cons_append, List.nil_append, List.drop_succ_cons, List.drop_zero, List.append_nil, List.getElem?_cons_zero, List.getElem?_cons_succ, rows_mark, row_mark, List.length_map, eq_self, true_implies, not_true_eq_false, not_false_eq_true, false_implies, and_true, true_and, decide_true, decide_false, Bool.not_true, Bool.not_false]
          have hws : ∀ w ∈ (wantL l x y l.length).take n.toNat, w < l.length := fun w hw => by
            have := List.mem_of_mem_take hw
            unfold wantL at this
            exact List.mem_range.1 (List.mem_filter.1 this).1
          have hwl := want_len l x y l.length n.toNat
          generalize (wantL l x y l.length).take n.toNat = ws at hws hwl ⊢
          refine LL.st good_EI (fun i : Nat => ws.length - i) (fun i => i ≤ ws.length)
            (fun i => [(.z, v), ((.o (.i (.o .z))), outV (H.key 0) 5 (markL l 0).length), ((.i (.i (.i .z))), outV (H.key 1) 1 ws.length), ((.i (.o (.o (.o .z)))), outV (H.key 2) 3 ws.length), ((.o (.i (.o (.o .z)))), .int .i64 i)])
            (fun i => [outB 5 ((markL l 0).map Cell.enc), outB 1 (ws.map intC), outB 3 (ws.map rowC)]) ?_ 0 (σ := [0, 2, 3]) ?_ (Nat.zero_le _)
          · clear hi hlt
            rintro i hi
            by_cases hlt : i < ws.length
            · have hwi : ws[i] < l.length := hws _ (List.getElem_mem hlt)
              have hgw : ws[i]? = some ws[i] := List.getElem?_eq_getElem hlt
              generalize ws[i] = w at hwi hgw
              have hpos : 0 < ws.length := by omega
              have hci : (i : Int) < (ws.length : Int) := by omega
              have hsi : i + 1 ≤ ws.length := by omega
              have hw := wrap_succ (n := i) (by omega)
              have hw2 := wrap_succ (n := w) (by omega)
              have hB1 := outB_pos (e := 1) (xs := ws.map intC) (by rw [List.length_map]; exact hpos)
              have hB3 := outB_pos (e := 3) (xs := ws.map rowC) (by rw [List.length_map]; exact hpos)
              have hw3 : IntKind.i64.wrap (97 + (w : Int)) = ((97 + w : Nat) : Int) := by rw [wrap_i64 (by omega) (by omega)]; omega
              have hw4 := wrap_u8 (m := 97 + w) (by omega)
              have hw5 := fun c => bytesC_one (m := 97 + w) (by omega) R1.fail c
              have hI : ∀ w, intC w = [.int .i64 (w : Int)] := fun _ => rfl
              have hR : ∀ w, rowC w = [.str [97 + w], .str [], .int .i64 ((w + 1 : Nat) : Int)] := fun _ => rfl
              simp only [go_sem, C5L2, Nat.reduceAdd, Nat.reduceSub, Nat.reduceMul, Nat.reduceDiv, Nat.reduceMod, Nat.reduceEqDiff, Nat.reduceLeDiff, Nat.reduceLT, Int.reduceLT, Int.reduceLE, Int.reduceEq, Int.reduceToNat, reduceIte, reduceCtorEq, List.length_nil, List.map_nil, List.length_cons, List.map_cons, List.replicate_succ, List.replicate_zero, List.set_cons_zero, List.set_cons_succ, List.take_succ_cons, List.take_zero, List.take_nil, List.length_append, List.map_append, List.cons_append, List.nil_append, List.drop_succ_cons, List.drop_zero, List.append_nil, List.getElem?_cons_zero, List.getElem?_cons_succ, hci, hsi, hw, outV_pos hpos, hB1, hB3, hgw, hw2, hw3, hw4, hw5, List.getElem?_map, Option.map_some, hI, hR, eq_self, true_implies, not_true_eq_false, not_false_eq_true, false_implies, and_true, true_and, decide_true, decide_false, Bool.not_true, Bool.not_false]
              exact ⟨i + 1, by show ws.length - (i + 1) < ws.length - i; omega, by show i + 1 ≤ ws.length; omega, _, [0, 1, 2], rfl, Wk.of rfl (by decide) (by simp only [go_sem, hren, outV_ren', List.length_nil, List.map_nil, List.length_cons, List.map_cons, List.replicate_succ, List.replicate_zero, List.set_cons_zero, List.set_cons_succ, List.take_succ_cons, List.take_zero, List.take_nil, List.length_append, List.map_append, List.cons_append, List.nil_append, List.drop_succ_cons, List.drop_zero, List.append_nil, List.getElem?_cons_zero, List.getElem?_cons_succ, Nat.reduceAdd, Nat.reduceSub, Nat.reduceMul, Nat.reduceDiv, Nat.reduceMod, Nat.reduceEqDiff, Nat.reduceLeDiff, Nat.reduceLT, Int.reduceLT, Int.reduceLE, Int.reduceEq, Int.reduceToNat, reduceIte, reduceCtorEq, outV_pos hpos]) (by simp only [go_sem, ↓outB_ren', intC_rens, intC_ren1, Cell.map_rens, rowC_rens, implies_true, hB1, hB3, List.length_nil, List.map_nil, List.length_cons, List.map_cons, List.replicate_succ, List.replicate_zero, List.set_cons_zero, List.set_cons_succ, List.take_succ_cons, List.take_zero, List.take_nil, List.length_append, List.map_append, List.cons_append, List.nil_append, List.drop_succ_cons, List.drop_zero, List.append_nil, List.getElem?_cons_zero, List.getElem?_cons_succ, Nat.reduceAdd, Nat.reduceSub, Nat.reduceMul, Nat.reduceDiv, Nat.reduceMod, Nat.reduceEqDiff, Nat.reduceLeDiff, Nat.reduceLT, Int.reduceLT, Int.reduceLE, Int.reduceEq, Int.reduceToNat, reduceIte, reduceCtorEq, eq_self, true_implies, not_true_eq_false, not_false_eq_true, false_implies, and_true, true_and, decide_true, decide_false, Bool.not_true, Bool.not_false])⟩
            · have hci : ¬ (i : Int) < (ws.length : Int) := by omega
              simp only [go_sem, C5L2, Nat.reduceAdd, Nat.reduceSub, Nat.reduceMul, Nat.reduceDiv, Nat.reduceMod, Nat.reduceEqDiff, Nat.reduceLeDiff, Nat.reduceLT, Int.reduceLT, Int.reduceLE, Int.reduceEq, Int.reduceToNat, reduceIte, reduceCtorEq, List.length_nil, List.map_nil, List.length_cons, List.map_cons, List.replicate_succ, List.replicate_zero, List.set_cons_zero, List.set_cons_succ, List.take_succ_cons, List.take_zero, List.take_nil, List.length_append, List.map_append, List.cons_append, List.nil_append, List.drop_succ_cons, List.drop_zero, List.append_nil, List.getElem?_cons_zero, List.getElem?_cons_succ, hlen, hci, hml, eq_self, true_implies, not_true_eq_false, not_false_eq_true, false_implies, and_true, true_and, decide_true, decide_false, Bool.not_true, Bool.not_false]
              exact ⟨_, rfl⟩
          · exact Wk.of rfl (by decide) (by simp only [go_sem, outV_ren', hren, List.length_nil, List.map_nil, List.length_cons, List.map_cons, List.replicate_succ, List.replicate_zero, List.set_cons_zero, List.set_cons_succ, List.take_succ_cons, List.take_zero, List.take_nil, List.length_append, List.map_append, List.cons_append, List.nil_append, List.drop_succ_cons, List.drop_zero, List.append_nil, List.getElem?_cons_zero, List.getElem?_cons_succ, Nat.reduceAdd, Nat.reduceSub, Nat.reduceMul, Nat.reduceDiv, Nat.reduceMod, Nat.reduceEqDiff, Nat.reduceLeDiff, Nat.reduceLT, Int.reduceLT, Int.reduceLE, Int.reduceEq, Int.reduceToNat, reduceIte, reduceCtorEq, Int.ofNat_zero]) (by simp only [go_sem, ↓outB_ren', intC_rens, intC_ren1, Cell.map_rens, rowC_rens, implies_true, List.length_nil, List.map_nil, List.length_cons, List.map_cons, List.replicate_succ, List.replicate_zero, List.set_cons_zero, List.set_cons_succ, List.take_succ_cons, List.take_zero, List.take_nil, List.length_append, List.map_append, List.cons_append, List.nil_append, List.drop_succ_cons, List.drop_zero, List.append_nil, List.getElem?_cons_zero, List.getElem?_cons_succ, Nat.reduceAdd, Nat.reduceSub, Nat.reduceMul, Nat.reduceDiv, Nat.reduceMod, Nat.reduceEqDiff, Nat.reduceLeDiff, Nat.reduceLT, Int.reduceLT, Int.reduceLE, Int.reduceEq, Int.reduceToNat, reduceIte, reduceCtorEq, eq_self, true_implies, not_true_eq_false, not_false_eq_true, false_implies, and_true, true_and, decide_true, decide_false, Bool.not_true, Bool.not_false])
      · exact Wk.of rfl (by decide) (by simp only [go_sem, outV_ren', hren, List.length_nil, List.map_nil, List.length_cons, List.map_cons, List.replicate_succ, List.replicate_zero, List.set_cons_zero, List.set_cons_succ, List.take_succ_cons, List.take_zero, List.take_nil, List.length_append, List.map_append, List.cons_append, List.nil_append, List.drop_succ_cons, List.drop_zero, List.append_nil, List.getElem?_cons_zero, List.getElem?_cons_succ, Nat.reduceAdd, Nat.reduceSub, Nat.reduceMul, Nat.reduceDiv, Nat.reduceMod, Nat.reduceEqDiff, Nat.reduceLeDiff, Nat.reduceLT, Int.reduceLT, Int.reduceLE, Int.reduceEq, Int.reduceToNat, reduceIte, reduceCtorEq, wantL, List.range_zero, List.filter_nil, Int.ofNat_zero]) (by simp only [go_sem, ↓outB_ren', intC_rens, intC_ren1, Cell.map_rens, rowC_rens, implies_true, wantL, List.range_zero, List.filter_nil, List.length_nil, List.map_nil, List.length_cons, List.map_cons, List.replicate_succ, List.replicate_zero, List.set_cons_zero, List.set_cons_succ, List.take_succ_cons, List.take_zero, List.take_nil, List.length_append, List.map_append, List.cons_append, List.nil_append, List.drop_succ_cons, List.drop_zero, List.append_nil, List.getElem?_cons_zero, List.getElem?_cons_succ, Nat.reduceAdd, Nat.reduceSub, Nat.reduceMul, Nat.reduceDiv, Nat.reduceMod, Nat.reduceEqDiff, Nat.reduceLeDiff, Nat.reduceLT, Int.reduceLT, Int.reduceLE, Int.reduceEq, Int.reduceToNat, reduceIte, reduceCtorEq, eq_self, true_implies, not_true_eq_false, not_false_eq_true, false_implies, and_true, true_and, decide_true, decide_false, Bool.not_true, Bool.not_false])
    · obtain ⟨kk, r, ex', cap', wr, rows, hv, hrho, hgo, hrow⟩ := hA.at hok (j := i) (by simp only [List.length_map]; omega)
      simp only [List.length_map, List.getElem_map] at hv hrow
      cases hv
      have hj : ((i + 1 : Nat) : Int) - 1 = (i : Int) := by omega
      have hi0 : (0 : Int) ≤ (i : Int) := by omega
      have hsi : i + 1 ≤ l.length := by omega
      have hw := wrap_succ (n := i) (by omega)
      have hw2 : IntKind.i64.wrap ((i : Int) - 1) = (i : Int) - 1 := wrap_i64 (by omega) (by omega)
      have hw3 : IntKind.i64.wrap (97 + (i : Int)) = ((97 + i : Nat) : Int) := by rw [wrap_i64 (by omega) (by omega)]; omega
      have hw4 := wrap_u8 (m := 97 + i) (by omega)
      have hw5 := fun c => bytesC_one (m := 97 + i) (by omega) R1.fail c
      have hml := markL_len (l.drop (i + 1)) (i + 1)
      rw [List.length_drop] at hml
      have he := fun (L : List Blk) (h : L[0]? = some (outB 5 ((markL (l.drop (i + 1)) (i + 1)).map Cell.enc))) => e22_out (H := H) h (by omega) (markC i l[i])
      have hnew := markL_next (l := l) (i := i) (d := l[i]) (List.getElem?_eq_getElem (by omega)) (by omega)
      rw [hnew] at he
      simp only [markC] at he
      simp only [go_sem, C5L0, Nat.reduceAdd, Nat.reduceSub, Nat.reduceMul, Nat.reduceDiv, Nat.reduceMod, Nat.reduceEqDiff, Nat.reduceLeDiff, Nat.reduceLT, Int.reduceLT, Int.reduceLE, Int.reduceEq, Int.reduceToNat, reduceIte, reduceCtorEq, List.length_nil, List.map_nil, List.length_cons, List.map_cons, List.replicate_succ, List.replicate_zero, List.set_cons_zero, List.set_cons_succ, List.take_succ_cons, List.take_zero, List.take_nil, List.length_append, List.map_append, List.cons_append, List.nil_append, List.drop_succ_cons, List.drop_zero, List.append_nil, List.getElem?_cons_zero, List.getElem?_cons_succ, hlen, hgo, hrow, hj, hi0, hsi, hw, hw2, hw3, hw4, hw5, he, eq_self, true_implies, not_true_eq_false, not_false_eq_true, false_implies, and_true, true_and, decide_true, decide_false, Bool.not_true, Bool.not_false]
      exact ⟨i, Nat.lt_succ_self i, by omega, _, [2], rfl, Wk.of rfl (by decide) (by simp only [go_sem, outV_ren', hrho, List.length_nil, List.map_nil, List.length_cons, List.map_cons, List.replicate_succ, List.replicate_zero, List.set_cons_zero, List.set_cons_succ, List.take_succ_cons, List.take_zero, List.take_nil, List.length_append, List.map_append, List.cons_append, List.nil_append, List.drop_succ_cons, List.drop_zero, List.append_nil, List.getElem?_cons_zero, List.getElem?_cons_succ, Nat.reduceAdd, Nat.reduceSub, Nat.reduceMul, Nat.reduceDiv, Nat.reduceMod, Nat.reduceEqDiff, Nat.reduceLeDiff, Nat.reduceLT, Int.reduceLT, Int.reduceLE, Int.reduceEq, Int.reduceToNat, reduceIte, reduceCtorEq]) (by simp only [go_sem, ↓outB_ren', intC_rens, intC_ren1, Cell.map_rens, rowC_rens, implies_true, List.length_nil, List.map_nil, List.length_cons, List.map_cons, List.replicate_succ, List.replicate_zero, List.set_cons_zero, List.set_cons_succ, List.take_succ_cons, List.take_zero, List.take_nil, List.length_append, List.map_append, List.cons_append, List.nil_append, List.drop_succ_cons, List.drop_zero, List.append_nil, List.getElem?_cons_zero, List.getElem?_cons_succ, Nat.reduceAdd, Nat.reduceSub, Nat.reduceMul, Nat.reduceDiv, Nat.reduceMod, Nat.reduceEqDiff, Nat.reduceLeDiff, Nat.reduceLT, Int.reduceLT, Int.reduceLE, Int.reduceEq, Int.reduceToNat, reduceIte, reduceCtorEq, eq_self, true_implies, not_true_eq_false, not_false_eq_true, false_implies, and_true, true_and, decide_true, decide_false, Bool.not_true, Bool.not_false])⟩
  · have hw : IntKind.i64.wrap ((l.length : Int) - 1) = (l.length : Int) - 1 := wrap_i64 (by omega) (by omega)
    have hdr : l.drop l.length = [] := List.drop_length
    exact Wk.of rfl (by decide) (by simp only [go_sem, outV_ren', hren, hw, hdr, markL, List.length_nil, List.map_nil, List.length_cons, List.map_cons, List.replicate_succ, List.replicate_zero, List.set_cons_zero, List.set_cons_succ, List.take_succ_cons, List.take_zero, List.take_nil, List.length_append, List.map_append, List.cons_append, List.nil_append, List.drop_succ_cons, List.drop_zero, List.append_nil, List.getElem?_cons_zero, List.getElem?_cons_succ, Nat.reduceAdd, Nat.reduceSub, Nat.reduceMul, Nat.reduceDiv, Nat.reduceMod, Nat.reduceEqDiff, Nat.reduceLeDiff, Nat.reduceLT, Int.reduceLT, Int.reduceLE, Int.reduceEq, Int.reduceToNat, reduceIte, reduceCtorEq, eq_self, true_implies, not_true_eq_false, not_false_eq_true, false_implies, and_true, true_and, decide_true, decide_false, Bool.not_true, Bool.not_false]) (by simp only [go_sem, hdr, markL, ↓outB_ren', intC_rens, intC_ren1, Cell.map_rens, rowC_rens, implies_true, List.length_nil, List.map_nil, List.length_cons, List.map_cons, List.replicate_succ, List.replicate_zero, List.set_cons_zero, List.set_cons_succ, List.take_succ_cons, List.take_zero, List.take_nil, List.length_append, List.map_append, List.cons_append, List.nil_append, List.drop_succ_cons, List.drop_zero, List.append_nil, List.getElem?_cons_zero, List.getElem?_cons_succ, Nat.reduceAdd, Nat.reduceSub, Nat.reduceMul, Nat.reduceDiv, Nat.reduceMod, Nat.reduceEqDiff, Nat.reduceLeDiff, Nat.reduceLT, Int.reduceLT, Int.reduceLE, Int.reduceEq, Int.reduceToNat, reduceIte, reduceCtorEq, eq_self, true_implies, not_true_eq_false, not_false_eq_true, false_implies, and_true, true_and, decide_true, decide_false, Bool.not_true, Bool.not_false])

end Go.Proofs
/- From a function that is known to answer true to what a law's row asks. -/

set_option linter.all false
namespace Go.Ev
open Go.ChangeShapes Go.WideShapes Go.RowKit
variable {P : Program} {H : Heap}
theorem kept_of_heap {W W' : World} (h1 : W'.os = W.os) (h2 : W'.output = W.output) (h : ∀ b, b < W.heap.size → W'.heap[b]? = W.heap[b]?) (may : MemPlace → Prop) : W.keptBut W' may := by
  refine ⟨h1, h2, fun i hi => ?_⟩
  rw [h i hi]
  split
  · rename_i e1 e2
    rw [e1] at e2; cases e2
    exact ⟨rfl, rfl, rfl, fun _ _ => rfl⟩
  · rename_i e1 e2
    rw [e1] at e2; cases e2
    exact .inr ⟨rfl, rfl⟩
  · rfl
theorem trodAll_below {HH : Type} {enc : TypeId × Value → HH} (hl : laidOutB P = true) {W W' : World} (hb : Below W.heap.size W W') : ∀ {ts : List TypeId} {vs : List Value} {ds : List (DataW HH)} {ps : List MemPlace},
    (∀ t ∈ ts, P.readableRec t = true ∧ t < P.types.size) → DataW.TrodAll enc P W 0 (fun _ => true) true ts vs ds ps → (∀ x ∈ ps, x.block < W.heap.size) →
    DataW.TrodAll enc P W' 0 (fun b => decide (b < W.heap.size)) true ts vs ds ps
  | [], [], [], ps, _, h, _ => h
  | t :: ts, v :: vs, d :: ds, ps, hr, ⟨p, q, h1, h2, e⟩, hlt => by
    subst e
    exact ⟨p, q, Below.trod hl (hr t (by simp)).1 (hr t (by simp)).2 h1 hb (fun x hx => hlt x (by simp [hx])), trodAll_below hl hb (fun t ht => hr t (by simp [ht])) h2 (fun x hx => hlt x (by simp [hx])), rfl⟩
  | [], _ :: _, _, _, _, h, _ => absurd h (by simp [DataW.TrodAll])
  | [], [], _ :: _, _, _, h, _ => absurd h (by simp [DataW.TrodAll])
  | _ :: _, [], _, _, _, h, _ => absurd h (by simp [DataW.TrodAll])
  | _ :: _, _ :: _, [], _, _, h, _ => absurd h (by simp [DataW.TrodAll])
/-- A LAW: it answers true, whatever it is given; what it was given stands as it stood -/
theorem law_calls {HH : Type} {enc : TypeId × Value → HH} {f : FuncId} {fn : Func} {s : ChangeSpec} {apart : Bool} {W : World} {args : Array Value} {ds gs : List (DataW HH)} {before : List MemPlace} {tb : TypeId}
    (hl : laidOutB P = true) (hr : ∀ t ∈ fn.params.toList, P.readableRec t = true ∧ t < P.types.size) (hres : fn.resultTypes = #[tb]) (htb : P.underlying tb = some .bool)
    (hv0 : s.vars = []) (h1 : (s.fn HH ds).results = [.lit (.bool true)]) (h2 : (s.fn HH ds).args = ds) (h3 : (s.fn HH ds).vars = [])
    (hW : DataW.Whole enc P fn.params.toList s.vars apart W args.toList ds gs before)
    {φ : Phi} {avs : List AV} (hw : WRel P φ H W) (ha : VRels P φ avs args.toList) (hown : ∀ k b, H.get k = some b → ¬ b.mayWrite)
    (hok : FnOk P f avs H fun v G => v = .bool true ∧ G = H) :
    Calls P f args W fun e W' => ∃ v, e = .returned v ∧ s.post enc P fn apart true false false W args v W' := by
  refine (hok φ W args ha hw).mono ?_
  rintro e W' ⟨v, G, ⟨rfl, rfl⟩, ψ, v', he, hv, hw', hext⟩
  cases hv
  refine ⟨_, he, ?_⟩
  have hheap : ∀ b, b < W.heap.size → W'.heap[b]? = W.heap[b]? := fun b hb => hext.keeps b hb (by
    rintro ⟨k, c, a, hc, hm, _⟩
    exact hown k c hc hm)
  have hbelow : Below W.heap.size W W' := ⟨hext.os, hext.tape, hext.output, hext.size, hheap⟩
  have hW0 := hW
  obtain ⟨p, q, hA, hV, rfl, hz, hn⟩ := hW
  rw [hv0] at hV
  obtain ⟨rfl, rfl⟩ := trodVars_none hV
  have hlt : ∀ x ∈ p, x.block < W.heap.size := fun x hx => hW0.lt x (by simp [hx])
  refine ⟨ds, [], p ++ [], [], p, [], hW0, ?_, ?_, ?_, kept_of_heap hext.os hext.output hheap _, fun h => by cases h⟩
  · rw [List.append_nil, h1, hres]
    exact trodAll_mk1 (shut_bool htb true)
  · rw [List.append_nil, h2]
    exact trodAll_below hl hbelow hr hA hlt
  · rw [List.append_nil, h3, hv0]
    rfl
end Go.Ev
/- What is given to a law: opened into the evaluator's memory. -/

set_option linter.all false
namespace Go.Ev
open Go.ChangeShapes Go.WideShapes Go.RowKit
variable {P : Program}
/-- kinds of cells -/
inductive PK where
  | str
  | int (k : IntKind)
  | bool
def PK.ty (P : Program) (t : TypeId) : PK → Prop
  | .str => P.underlying t = some .string
  | .int k => P.underlying t = some (.int k)
  | .bool => P.underlying t = some .bool
inductive KOf : PK → AV → Prop
  | str (l : List Nat) (h : l.length ≤ 9223372036854775807) : KOf .str (.str l)
  | int (k : IntKind) (n : Int) (h : (Lit.int k n).wf = true) : KOf (.int k) (.int k n)
  | bool (b : Bool) : KOf .bool (.bool b)
/-- a row of cells of such kinds -/
def RowOf (ks : List PK) (row : List AV) : Prop := row.length = ks.length ∧ ∀ (i : Nat) (k : PK) (v : AV), ks[i]? = some k → row[i]? = some v → KOf k v
section
variable {HH : Type} {enc : TypeId × Value → HH} {w : World} {base : Nat} {sp : Nat → Bool} {held : Bool} {fuel : Nat} {t : TypeId} {cs : List Value} {x : DataW HH × List MemPlace}
theorem open_prim {k : PK} (hk : k.ty P t) (h : DataW.trod enc P w base sp held fuel t cs = some x) : ∃ v av, cs = [v] ∧ (∀ φ, VRel P φ av v) ∧ v.oneCell' = true ∧ KOf k av := by
  cases k with
  | str =>
    obtain ⟨s, rfl, _, hs⟩ := DataW.trod_string hk h
    refine ⟨_, .str (s.data.toList.map (·.toNat)), rfl, fun φ => .str _ _ rfl, rfl, .str _ ?_⟩
    rw [List.length_map]
    exact hs
  | int k =>
    obtain ⟨n, rfl, _, hn⟩ := DataW.trod_int hk h
    exact ⟨_, .int k n, rfl, fun φ => .int _ _, rfl, .int _ _ hn⟩
  | bool =>
    obtain ⟨b, rfl, _⟩ := DataW.trod_bool hk h
    exact ⟨_, .bool b, rfl, fun φ => .bool _, rfl, .bool _⟩
theorem vrels_of_get {φ : Phi} : ∀ {l : List AV} {l' : List Value}, l.length = l'.length → (∀ (i : Nat) (v : AV) (v' : Value), l[i]? = some v → l'[i]? = some v' → VRel P φ v v') → VRels P φ l l'
  | [], [], _, _ => .nil
  | v :: l, v' :: l', hl, h => .cons _ _ _ _ (h 0 v v' rfl rfl) (vrels_of_get (by simpa using hl) fun i a b ha hb => h (i + 1) a b (by simpa using ha) (by simpa using hb))
  | [], _ :: _, h, _ => by simp at h
  | _ :: _, [], h, _ => by simp at h
/-- a struct whose fields are a cell each -/
structure Flat (P : Program) (t : TypeId) (ks : List PK) : Prop where
  st : ∃ fs : Array Field, P.underlying t = some (.struct fs) ∧ fs.size = ks.length ∧ ∀ (i : Nat) (f : Field), fs[i]? = some f → f.offset = i ∧ P.cellsOf f.type = 1 ∧ ∃ k, ks[i]? = some k ∧ k.ty P f.type
  cells : P.cellsOf t = ks.length
theorem open_flat {ks : List PK} (hf : Flat P t ks) (h : DataW.trod enc P w base sp held fuel t cs = some x) :
    ∃ row, (∀ φ, VRels P φ row cs) ∧ cs.length = ks.length ∧ (∀ v ∈ cs, v.oneCell' = true) ∧ RowOf ks row := by
  obtain ⟨fs, ht, hn, hfs⟩ := hf.st
  obtain ⟨xs, n, _, _, hcl, hxl, hx⟩ := DataW.trod_struct ht h
  rw [hf.cells] at hcl
  have each : ∀ i : Nat, i < ks.length → ∃ av, ∃ v, cs[i]? = some v ∧ (∀ φ, VRel P φ av v) ∧ v.oneCell' = true ∧ ∃ k, ks[i]? = some k ∧ KOf k av := by
    intro i hi
    have hfi : fs[i]? = some fs[i] := Array.getElem?_eq_getElem (by omega)
    obtain ⟨h1, h2, k, h3, h4⟩ := hfs i _ hfi
    have hxi := hx i _ hfi
    rw [h1, h2, List.getElem?_eq_getElem (by omega)] at hxi
    obtain ⟨v, av, he, hv, ho, hk⟩ := open_prim h4 hxi
    refine ⟨av, v, ?_, hv, ho, k, h3, hk⟩
    have : (cs.drop i)[0]? = some v := by
      have e : ((cs.drop i).take 1)[0]? = some v := by rw [he]; rfl
      rwa [List.getElem?_take_of_lt (by omega)] at e
    rwa [List.getElem?_drop, Nat.add_zero] at this
  have hrow : ∃ row : List AV, row.length = ks.length ∧ ∀ (i : Nat) (av : AV), row[i]? = some av → ∃ v, cs[i]? = some v ∧ (∀ φ, VRel P φ av v) ∧ v.oneCell' = true ∧ ∃ k, ks[i]? = some k ∧ KOf k av := by
    refine ⟨List.ofFn (n := ks.length) fun i => Classical.choose (each i.1 i.2), by simp, fun i av hi => ?_⟩
    rw [List.getElem?_ofFn] at hi
    split at hi
    · rename_i hlt
      cases hi
      exact Classical.choose_spec (each i hlt)
    · cases hi
  obtain ⟨row, hrl, hr⟩ := hrow
  refine ⟨row, fun φ => vrels_of_get (by omega) ?_, hcl, ?_, hrl, ?_⟩
  · intro i v v' hi hi'
    obtain ⟨u, hu, hv, _⟩ := hr i v hi
    rw [hi'] at hu; cases hu
    exact hv φ
  · intro v hv
    obtain ⟨i, hi, rfl⟩ := List.mem_iff_getElem.1 hv
    obtain ⟨u, hu, _, ho, _⟩ := hr i _ (List.getElem?_eq_getElem (show i < row.length by omega))
    rw [List.getElem?_eq_getElem hi] at hu; cases hu
    exact ho
  · intro i k v hk hi
    obtain ⟨_, _, _, _, k', hk', h⟩ := hr i v hi
    rw [hk] at hk'; cases hk'
    exact h
end
/-- one more block that is only read -/
theorem WRel.arg {φ : Phi} {H : Heap} {w : World} (hw : WRel P φ H w) (hro : ∀ k b, H.get k = some b → ¬ b.mayWrite) {a : At} {b : Blk} (hb : BlkRel P φ w a b) (ha : a.b < w.heap.size) (hm : ¬ b.mayWrite) :
    WRel P (φ.put H.nx a) (H.add b) w ∧ (∀ k c, (H.add b).get k = some c → ¬ c.mayWrite) ∧ φ.le (φ.put H.nx a) := by
  have hnone := hw.nx_none
  have hle := Phi.put_le φ H.nx a hnone
  have hsucc : H.nx.toNat < (H.add b).nx.toNat := K.lt_succ _
  have hput : ∀ j x, j ≠ H.nx → φ.put H.nx a j = some x → φ j = some x := by
    intro j x hj hx
    unfold Phi.put at hx
    rwa [if_neg hj] at hx
  have hro' : ∀ k c, (H.add b).get k = some c → ¬ c.mayWrite := by
    intro k c hk
    rw [Heap.get_add] at hk
    split at hk
    · cases hk; exact hm
    · exact hro k c hk
  refine ⟨⟨?_, ?_, ?_, ?_, ?_⟩, hro', hle⟩
  · intro j x hx
    by_cases e : j = H.nx
    · subst e; exact hsucc
    · exact Nat.lt_trans (hw.dom j x (hput j x e hx)) hsucc
  · intro j c hj
    rw [Heap.get_add] at hj
    split at hj
    · rename_i e; subst e; exact hsucc
    · exact Nat.lt_trans (hw.top j c hj) hsucc
  · intro j c x hj hx
    rw [Heap.get_add] at hj
    split at hj
    · rename_i e; subst e
      cases hj
      rw [Phi.put_same] at hx; cases hx
      exact hb.mono hle
    · rename_i e
      exact (hw.blk j c x hj (hput j x (fun h => e h.symm) hx)).mono hle
  · intro i j c d x y _ hi _ _ _ _ _ _
    exact hro' i c hi
  · intro k x hx
    by_cases e : k = H.nx
    · subst e
      rw [Phi.put_same] at hx; cases hx
      exact ha
    · exact hw.size k x (hput k x e hx)
noncomputable def noHeap : Heap := .mk .z .lf
theorem noHeap_rel (w : World) : WRel P (fun _ => none) noHeap w :=
  ⟨fun k a h => (by cases h), fun k b h => (by cases k <;> cases h), fun k b a h => (by cases k <;> cases h), fun j k c d x y _ h => (by cases j <;> cases h), fun k a h => (by cases h)⟩
theorem noHeap_ro : ∀ k b, noHeap.get k = some b → ¬ b.mayWrite := fun k b h => by cases k <;> cases h
end Go.Ev
/- A slice that is given to a law, opened. -/

set_option linter.all false
namespace Go.Ev
open Go.ChangeShapes Go.WideShapes Go.RowKit Go.Deep
variable {P : Program}
theorem vrels_flat {φ : Phi} {n : Nat} : ∀ {rows : List (List AV)} {vs : List Value}, (∀ r ∈ rows, r.length = n) → vs.length = rows.length * n → (∀ (i : Nat) (r : List AV), rows[i]? = some r → VRels P φ r ((vs.drop (i * n)).take n)) → VRels P φ rows.flatten vs
  | [], vs, _, hl, _ => by
    obtain rfl : vs = [] := List.length_eq_zero_iff.1 (by simpa using hl)
    exact .nil
  | r :: rows, vs, hr, hl, h => by
    have h0 := h 0 r rfl
    rw [Nat.zero_mul, List.drop_zero] at h0
    have ih := vrels_flat (rows := rows) (vs := vs.drop n) (fun x hx => hr x (by simp [hx])) (by rw [List.length_drop, hl, List.length_cons, Nat.add_mul, Nat.one_mul, Nat.add_sub_cancel]) (fun i x hx => by
      have := h (i + 1) x (by simpa using hx)
      rwa [show (i + 1) * n = n + i * n by rw [Nat.add_mul, Nat.one_mul, Nat.add_comm], ← List.drop_drop] at this)
    rw [List.flatten_cons, ← List.take_append_drop n vs]
    exact h0.append ih
theorem slice_forms {W : World} {r : Reach} {base : Nat} {t e : TypeId} {v : Value} (ht : P.underlying t = some (.slice e)) (hval : Value.okWide P W r base t v) :
    v = .slice none 0 0 ∨ ∃ b o len cap, v = .slice (some ⟨b, o, none⟩) len cap ∧ len ≤ cap ∧ b < W.heap.size := by
  obtain ⟨a, len, cap, rfl⟩ := okWide_slice ht hval
  simp only [Value.okWide, ht, Cell.okWide] at hval
  cases a with
  | none =>
    cases len <;> cases cap <;> simp_all [Cell.ok]
  | some a =>
    simp only [Cell.ok, ht, World.has] at hval
    obtain ⟨h1, _, _, h3, row, cells, h4, _⟩ := hval
    obtain ⟨b, o, s⟩ := a
    simp only at h3
    subst h3
    refine .inr ⟨b, o, len, cap, rfl, h1, ?_⟩
    unfold World.shape? at h4
    rcases hh : W.heap[b]? with _ | z
    · simp only [hh] at h4; cases h4
    · exact (Array.getElem?_eq_some_iff.1 hh).1
theorem cells_at {W : World} {b o n : Nat} {cs : List Value} (h : W.cells? 0 ⟨b, o, none⟩ n = some cs) (hn : 0 < n) :
    ∃ c ty fr, W.heap[b]? = some (.cells c ty fr) ∧ o + n ≤ c.size ∧ (c.toList.drop o).take n = cs := by
  obtain ⟨_, hl, hc⟩ := World.cells?_some h
  have h0 := hc 0 hn
  rw [List.getElem?_eq_getElem (by omega)] at h0
  have key : ∀ i, (⟨b, o, none⟩ : Addr).add i = ⟨b, o + i, none⟩ := by
    intro i
    unfold Addr.add
    split
    · rename_i e; subst e; rfl
    · rfl
  rw [key] at h0
  unfold World.cell? at h0
  rcases hh : W.heap[b]? with _ | z
  · simp only [hh] at h0; cases h0
  · cases z with
    | cells c ty fr =>
      have hc' : ∀ i, i < n → c[o + i]? = cs[i]? := by
        intro i hi
        rw [← hc i hi, key]
        unfold World.cell?
        simp only [hh, Option.isSome_none, Bool.false_eq_true, if_false]
      have hlast := hc' (n - 1) (by omega)
      rw [List.getElem?_eq_getElem (by omega)] at hlast
      have hsz := (Array.getElem?_eq_some_iff.1 hlast).1
      refine ⟨c, ty, fr, rfl, by omega, ?_⟩
      apply List.ext_getElem?
      intro i
      rcases Nat.lt_or_ge i n with hi | hi
      · rw [List.getElem?_take_of_lt hi, List.getElem?_drop, Array.getElem?_toList, hc' i hi]
      · rw [List.getElem?_eq_none (by rw [List.length_take]; omega), List.getElem?_eq_none (by omega)]
    | _ => simp only [hh] at h0; cases h0
/-- A SLICE OF FLAT STRUCTS THAT IS GIVEN -/
theorem open_rows {HH : Type} {enc : TypeId × Value → HH} {W : World} {r : Reach} {base : Nat} {t e : TypeId} {v : Value} {d : DataW HH} {p : List MemPlace} {ks : List PK}
    (ht : P.underlying t = some (.slice e)) (hks : 0 < ks.length) (hce : P.cellsOf e = ks.length)
    (hflat : ∀ (n : Nat) (cs : List Value) (x : DataW HH × List MemPlace), DataW.trod enc P W 0 (fun _ => true) true n e cs = some x → ∃ row, (∀ φ, VRels P φ row cs) ∧ cs.length = ks.length ∧ (∀ v ∈ cs, v.oneCell' = true) ∧ RowOf ks row)
    (hval : Value.okWide P W r base t v) (h : DataW.Trod enc P W 0 (fun _ => true) true t v d p)
    {φ : Phi} {H : Heap} (hw : WRel P φ H W) (hro : ∀ k b, H.get k = some b → ¬ b.mayWrite) :
    ∃ φ' l av xs, WRel P φ' (H.ext l) W ∧ (∀ k b, (H.ext l).get k = some b → ¬ b.mayWrite) ∧ φ.le φ' ∧ VRel P φ' av v ∧ Arr (H.ext l) ks.length av xs ∧ (∀ r ∈ xs, RowOf ks r) ∧ xs.length ≤ 9223372036854775807 := by
  rcases slice_forms ht hval with rfl | ⟨b, o, len, cap, rfl, hlc, hb⟩
  · exact ⟨φ, [], .nils, [], hw, hro, fun _ _ h => h, .nils, .inl ⟨rfl, rfl⟩, by simp, by simp⟩
  obtain ⟨fuel, hf⟩ := h
  rcases open_slice ht hf with ⟨hcs, _⟩ | ⟨a, len', cap', m, n, D, Pl, hcs, _, _, hmax, hm, _, hel⟩
  · simp [Value.cells] at hcs
  simp [Value.cells] at hcs
  obtain ⟨rfl, rfl, rfl⟩ := hcs
  simp only [if_true] at hm
  subst hm
  rcases Nat.eq_zero_or_pos m with h0 | h0
  · subst h0
    obtain rfl : len = 0 := by omega
    obtain ⟨hw1, hro1, hle⟩ := WRel.arg hw hro (a := ⟨b, o, 0⟩) (b := .dead) trivial hb (fun h => h)
    refine ⟨_, [.dead], .slice H.nx 0 0 ks.length true 0, [], hw1, hro1, hle, .sliceE _ _ _ _ ⟨b, o, 0⟩ o (Phi.put_same _ _ _), .inr ⟨H.nx, 0, true, 0, rfl, ?_, fun h => absurd rfl h⟩, by simp, by simp⟩
    rw [Heap.nx_ext, Heap.toNat_key]; simp
  · have key : ∀ i, (⟨b, o, none⟩ : Addr).add i = ⟨b, o + i, none⟩ := by
      intro i
      unfold Addr.add
      split
      · rename_i e; subst e; rfl
      · rfl
    have hel' : ∀ i, i < m → ∃ row c ty fr, W.heap[b]? = some (.cells c ty fr) ∧ o + i * ks.length + ks.length ≤ c.size ∧ (∀ φ, VRels P φ row ((c.toList.drop (o + i * ks.length)).take ks.length)) ∧ (∀ v ∈ (c.toList.drop (o + i * ks.length)).take ks.length, v.oneCell' = true) ∧ RowOf ks row := by
      intro i hi
      obtain ⟨cs', h1, h2⟩ := hel i hi
      rw [hce, key] at h1
      obtain ⟨c, ty, fr, hc, hsz, rfl⟩ := cells_at h1 hks
      obtain ⟨row, r1, _, r3, r4⟩ := hflat _ _ _ h2
      exact ⟨row, c, ty, fr, hc, hsz, r1, r3, r4⟩
    obtain ⟨_, c, ty, fr, hc, _⟩ := hel' 0 h0
    have hel2 : ∀ i, i < m → ∃ row, o + i * ks.length + ks.length ≤ c.size ∧ (∀ φ, VRels P φ row ((c.toList.drop (o + i * ks.length)).take ks.length)) ∧ (∀ v ∈ (c.toList.drop (o + i * ks.length)).take ks.length, v.oneCell' = true) ∧ RowOf ks row := by
      intro i hi
      obtain ⟨row, c', ty', fr', hc', h⟩ := hel' i hi
      rw [hc] at hc'; cases hc'
      exact ⟨row, h⟩
    have hrows : ∃ rows : List (List AV), rows.length = m ∧ ∀ (i : Nat) (row : List AV), rows[i]? = some row → o + i * ks.length + ks.length ≤ c.size ∧ (∀ φ, VRels P φ row ((c.toList.drop (o + i * ks.length)).take ks.length)) ∧ (∀ v ∈ (c.toList.drop (o + i * ks.length)).take ks.length, v.oneCell' = true) ∧ RowOf ks row := by
      refine ⟨List.ofFn (n := m) fun i => Classical.choose (hel2 i.1 i.2), by simp, fun i row hi => ?_⟩
      rw [List.getElem?_ofFn] at hi
      split at hi
      · rename_i hlt
        cases hi
        exact Classical.choose_spec (hel2 i hlt)
      · cases hi
    obtain ⟨rows, hrl, hr⟩ := hrows
    have hall : ∀ row ∈ rows, RowOf ks row := by
      intro row hrow
      obtain ⟨i, hi, rfl⟩ := List.mem_iff_getElem.1 hrow
      exact (hr i _ (List.getElem?_eq_getElem hi)).2.2.2
    have hsz : o + m * ks.length ≤ c.size := by
      have h1 := (hr (m - 1) _ (List.getElem?_eq_getElem (show m - 1 < rows.length by omega))).1
      have h2 : m * ks.length = (m - 1) * ks.length + ks.length := by
        rw [show m = m - 1 + 1 by omega, Nat.add_mul, Nat.one_mul, Nat.add_sub_cancel]
      omega
    have hdt : ∀ i, i < m → (((c.toList.drop o).take (m * ks.length)).drop (i * ks.length)).take ks.length = (c.toList.drop (o + i * ks.length)).take ks.length := by
      intro i hi
      have h2 : i * ks.length + ks.length ≤ m * ks.length := by
        have := Nat.mul_le_mul_right ks.length (show i + 1 ≤ m by omega)
        rwa [Nat.add_mul, Nat.one_mul] at this
      rw [List.drop_take, List.take_take, List.drop_drop, Nat.min_eq_left (by omega)]
    have hvl : ((c.toList.drop o).take (m * ks.length)).length = rows.length * ks.length := by
      have hcl : c.toList.length = c.size := Array.length_toList
      rw [List.length_take, List.length_drop, hcl, hrl]; omega
    have hblk : BlkRel P φ W ⟨b, o, c.size⟩ (.row false ks.length rows) := by
      refine ⟨hks, fun r hr => (hall r hr).1, c.toList.take o, (c.toList.drop o).take (m * ks.length), c.toList.drop (o + m * ks.length), ty, fr.1, fr.2, ?_, ?_, ?_, fun h => (by cases h), ?_, ?_, fun h => (by cases h)⟩
      · rw [hc]
        congr 2
        rw [List.append_assoc, ← List.drop_drop, List.take_append_drop, List.take_append_drop]
      · rw [List.length_take, Array.length_toList]; show min o c.size = o; omega
      · rw [List.append_assoc, ← List.drop_drop, List.take_append_drop, List.take_append_drop, Array.length_toList]
      · refine vrels_flat (fun r hr => (hall r hr).1) hvl fun i r hi => ?_
        have hlt : i < m := by rw [← hrl]; exact (List.getElem?_eq_some_iff.1 hi).1
        rw [hdt i hlt]
        exact (hr i r hi).2.1 φ
      · intro v hv
        obtain ⟨j, hj, rfl⟩ := List.mem_iff_getElem.1 hv
        rw [hvl] at hj
        have hq : j / ks.length < m := by rw [Nat.div_lt_iff_lt_mul hks, ← hrl]; exact hj
        have h3 := (hr (j / ks.length) _ (List.getElem?_eq_getElem (show j / ks.length < rows.length by omega))).2.2.1
        refine h3 _ ?_
        rw [← hdt _ hq]
        refine List.mem_iff_getElem?.2 ⟨j % ks.length, ?_⟩
        have e2 : j / ks.length * ks.length + j % ks.length = j := by rw [Nat.mul_comm]; exact Nat.div_add_mod ..
        rw [List.getElem?_take_of_lt (Nat.mod_lt _ hks), List.getElem?_drop, e2]
        exact List.getElem?_eq_getElem _
    obtain ⟨hw1, hro1, hle⟩ := WRel.arg hw hro (a := ⟨b, o, c.size⟩) (b := .row false ks.length rows) hblk hb (fun h => by cases h)
    have hxl : (rows.take len).length = len := by rw [List.length_take]; omega
    refine ⟨_, [.row false ks.length rows], .slice H.nx 0 len ks.length true m, rows.take len, hw1, hro1, hle, ?_, .inr ⟨H.nx, 0, true, m, by rw [hxl], ?_, fun _ => ⟨0, false, rows, by simp, ?_, ?_⟩⟩, fun r hr => hall r (List.mem_of_mem_take hr), ?_⟩
    · exact VRel.slice H.nx 0 len ks.length true m ⟨b, o, c.size⟩ m (Phi.put_same _ _ _) (fun _ => rfl) (Nat.le_refl _) hlc hsz
    · rw [Heap.nx_ext, Heap.toNat_key]; simp
    · rw [Heap.ext_one, Heap.get_add, if_pos rfl]
    · rw [List.drop_zero, hxl]
    · rw [hxl]; unfold maxLen at hmax; omega
end Go.Ev
/- index: the law that builds, proved. -/


set_option linter.all false
set_option maxRecDepth 100000
namespace Go.Ev
open Go.ChangeShapes Go.WideShapes Go.RowKit
variable {P : Program}
section
variable {HH : Type} {enc : TypeId × Value → HH} {W : World} {r : Reach} {base b0 : Nat} {sp : Nat → Bool} {held : Bool} {t : TypeId} {v : Value} {d : DataW HH} {p : List MemPlace}
theorem bool_of (ht : P.underlying t = some .bool) (h : Value.okWide P W r b0 t v) : ∃ b, v = .bool b := by
  simp only [Value.okWide, ht, Cell.okWide] at h
  cases v <;> simp_all [Cell.ok]
theorem open_cell {k : PK} (hk : k.ty P t) (hval : Value.okWide P W r b0 t v) (h : DataW.Trod enc P W base sp held t v d p) : ∃ av, (∀ φ, VRel P φ av v) ∧ KOf k av := by
  obtain ⟨fuel, hf⟩ := h
  obtain ⟨u, av, hcs, hv, ho, hko⟩ := open_prim hk hf
  have hv1 : v.cells.toList = [v] := by
    cases k with
    | str => obtain ⟨s, rfl⟩ := okWide_string hk hval; rfl
    | int k => obtain ⟨n, rfl⟩ := okWide_int hk hval; rfl
    | bool =>
      obtain ⟨b, rfl⟩ := bool_of hk hval
      rfl
  rw [hv1] at hcs
  cases hcs
  exact ⟨av, hv, hko⟩
theorem open_agg {ks : List PK} (hf : Flat P t ks) (hval : Value.okWide P W r b0 t v) (h : DataW.Trod enc P W base sp held t v d p) : ∃ row, (∀ φ, VRel P φ (.agg row) v) ∧ RowOf ks row := by
  obtain ⟨fuel, hff⟩ := h
  obtain ⟨row, h1, h2, h3, h4⟩ := open_flat hf hff
  obtain ⟨fs, ht, _⟩ := hf.st
  simp only [Value.okWide, ht] at hval
  obtain ⟨cs, rfl, _⟩ := hval
  exact ⟨row, fun φ => .agg _ _ (h1 φ) h3, h4⟩
end
end Go.Ev
namespace Go.Proofs
open Go Go.Ev
theorem row2 {k1 k2 : PK} {row : List AV} (h : RowOf [k1, k2] row) : ∃ a b, row = [a, b] ∧ KOf k1 a ∧ KOf k2 b := by
  obtain ⟨hl, h⟩ := h
  match row, hl with
  | [a, b], _ => exact ⟨a, b, rfl, h 0 _ _ rfl rfl, h 1 _ _ rfl rfl⟩
theorem row5 {k1 k2 k3 k4 k5 : PK} {row : List AV} (h : RowOf [k1, k2, k3, k4, k5] row) : ∃ a b c d e, row = [a, b, c, d, e] ∧ KOf k1 a ∧ KOf k2 b ∧ KOf k3 c ∧ KOf k4 d ∧ KOf k5 e := by
  obtain ⟨hl, h⟩ := h
  match row, hl with
  | [a, b, c, d, e], _ => exact ⟨a, b, c, d, e, rfl, h 0 _ _ rfl rfl, h 1 _ _ rfl rfl, h 2 _ _ rfl rfl, h 3 _ _ rfl rfl, h 4 _ _ rfl rfl⟩
abbrev cellK : List PK := [.str, .str, .int .i64, .bool, .int .i64]
theorem cell_of {row : List AV} (h : RowOf cellK row) : ∃ c : Cell, row = c.enc := by
  obtain ⟨a, b, c, d, e, rfl, h1, h2, h3, h4, h5⟩ := row5 h
  cases h1; cases h2; cases h3; cases h4; cases h5
  exact ⟨⟨_, _, _, _, _⟩, rfl⟩
theorem cells_of : ∀ {rows : List (List AV)}, (∀ r ∈ rows, RowOf cellK r) → ∃ l : List Cell, rows = l.map Cell.enc
  | [], _ => ⟨[], rfl⟩
  | r :: rows, h => by
    obtain ⟨c, rfl⟩ := cell_of (h r (by simp))
    obtain ⟨l, rfl⟩ := cells_of (rows := rows) fun x hx => h x (by simp [hx])
    exact ⟨c :: l, rfl⟩
theorem flat24 : Flat Try.prog 24 cellK := by
  refine ⟨⟨_, Try.underlying24, rfl, ?_⟩, by kernel_rfl⟩
  intro i f h
  match i, h with
  | 0, h => cases h; exact ⟨rfl, by kernel_rfl, _, rfl, Try.underlying9⟩
  | 1, h => cases h; exact ⟨rfl, by kernel_rfl, _, rfl, Try.underlying9⟩
  | 2, h => cases h; exact ⟨rfl, by kernel_rfl, _, rfl, Try.underlying3⟩
  | 3, h => cases h; exact ⟨rfl, by kernel_rfl, _, rfl, Try.underlying4⟩
  | 4, h => cases h; exact ⟨rfl, by kernel_rfl, _, rfl, Try.underlying3⟩
theorem flat26 : Flat Try.prog 26 [.str, .str] := by
  refine ⟨⟨_, Try.underlying26, rfl, ?_⟩, by kernel_rfl⟩
  intro i f h
  match i, h with
  | 0, h => cases h; exact ⟨rfl, by kernel_rfl, _, rfl, Try.underlying9⟩
  | 1, h => cases h; exact ⟨rfl, by kernel_rfl, _, rfl, Try.underlying9⟩
end Go.Proofs
namespace Go.Proofs.Ytiadcabmonbgiaa
open Go Go.Ev Go.ChangeShapes Go.WideShapes Go.ChangeAt Go.RowKit
theorem Try.own : ownKnob Try.prog.godebug = none := by kernel_rfl
theorem Try.laidOut : laidOutB Try.prog = true := by kernel_rfl
set_option maxRecDepth 100000 in
theorem indexBuilds_lifted (os : Os) (started : os.Started) (H : Type) (enc : TypeId × Value → H) :
    ReturnsInHanded {} Try.checked os 4 .any (Rows.indexBuildsSpec.pre6 enc Try.prog Try.f4 Rows.indexBuildsRow.domain false) (Rows.indexBuildsSpec.post enc Try.prog Try.f4 false true false false) := by
  refine returnsInHanded_of_change (C := Try.checked) Try.own started (by kernel_rfl) Try.func4
    (ChangeSpec.witness6 (enc := enc) (C := Try.checked) false ⟨#[], #[.slice none 0 0], []⟩ 8 (by kernel_rfl) (by kernel_rfl) (by kernel_rfl) (by kernel_rfl)) ?_
  intro W base args ds gs before hval0 hW hcnd _
  have hval : ∀ (j : Nat) t v, Try.f4.params[j]? = some t → args[j]? = some v → Value.okWide Try.prog W .any base t v := hval0
  obtain ⟨p, q, hA0, hV, rfl, hfz, hnd⟩ := id hW
  have hA : DataW.TrodAll enc Try.prog W 0 (fun _ => true) true Try.f4.params.toList args.toList ds p := hA0
  rw [Try.params4] at hA hval
  obtain ⟨v0, vs0, d0, ds0, p0, q0, hargs, rfl, rfl, h0, r0⟩ := trodAll_cons hA
  obtain ⟨rfl, rfl, rfl⟩ := trodAll_nil r0
  obtain rfl : args = #[v0] := by cases args; simp_all
  obtain ⟨φ, l, av, xs, hw, hro, _, hv0, hArr, hrows, hlen⟩ := open_rows Try.underlying22 (ks := cellK) (by decide) (by kernel_rfl) (fun n cs x hx => open_flat flat24 hx) (hval 0 22 v0 rfl rfl) h0 (noHeap_rel W) noHeap_ro
  obtain ⟨cl, rfl⟩ := cells_of hrows
  rw [List.length_map] at hlen
  exact law_calls (P := Try.prog) (fn := Try.f4) (s := Rows.indexBuildsSpec) (tb := 4) Try.laidOut (by decide +kernel) (by kernel_rfl) Try.underlying4 rfl rfl rfl rfl hW hw
    (.cons _ _ _ _ hv0 .nil) hro (f4_ok hArr hlen)
theorem indexBuilds_holds : Rows.IndexBuildsSaid :=
  OpenClaim.holds_of_wide 4 Try.f4 rfl rfl rfl rfl rfl rfl rfl ⟨rfl, rfl, rfl, rfl, rfl⟩ rfl rfl rfl rfl rfl (by kernel_rfl) Try.func4 (by kernel_rfl)
    (of_decide_eq_true (by kernel_rfl)) (by unfold Func.isWrapper; first | (rw [if_pos (by decide +kernel)]; kernel_rfl) | (rw [if_neg (by decide +kernel)]; exact ⟨rfl, rfl⟩))
    (fun os started H enc _ => indexBuilds_lifted os started H enc)
end Go.Proofs.Ytiadcabmonbgiaa
#print axioms Go.Proofs.Ytiadcabmonbgiaa.indexBuilds_holds
