/- index: the rows of a span, walked. -/
import Derived.Test.YtiadcabmonbgiaaZ9
set_option linter.all false
set_option maxRecDepth 100000
namespace Go.Proofs
open Go Go.Ev
variable {H : Heap}

theorem mx40 {n : Nat} (h : n < 4294967296) : (2 * (n + 1 + 1) + 192) * 40 ≤ 281474976710656 := by omega
def there (c : Cell) : Prop := 0 < c.ver ∧ c.del = false
instance (c : Cell) : Decidable (there c) := inferInstanceAs (Decidable (_ ∧ _))
def Cell.row (c : Cell) : List AV := [.str c.key, .str c.value, .int .i64 c.ver]
theorem Cell.map_row (ρ : K → K) (l : List Cell) : (l.map Cell.row).map (AV.rens ρ) = l.map Cell.row := by
  rw [List.map_map]; exact List.map_congr_left fun c _ => by simp only [Function.comp, Cell.row, AV.rens, AV.ren]
noncomputable def rowsL (f t : List Nat) (n : Int) (l : List Cell) : List Cell := (l.filter fun c => decide (has f t c.key ∧ there c)).take n.toNat
def liveN (n : Int) (l : List Cell) : List Cell := (l.filter fun c => decide (there c)).take n.toNat
theorem liveN_within (f t : List Nat) (n : Int) (l : List Cell) : liveN n (withinL f t l) = rowsL f t n l := by
  unfold liveN rowsL withinL
  rw [List.filter_filter]
  congr 2
  funext c
  rw [Bool.eq_iff_iff]
  simp [and_comm]
theorem pickN_yes {p : Cell → Bool} {n : Int} {l : List Cell} {i : Nat} {c : Cell} (h : l[i]? = some c) (h2 : p c = true) (h3 : ((((l.take i).filter p).take n.toNat).length : Int) < n) : ((l.take (i + 1)).filter p).take n.toNat = ((l.take i).filter p).take n.toNat ++ [c] := by
  rw [take_next h, List.filter_append, List.filter_cons_of_pos h2, List.filter_nil]
  exact takeN_lt c (by omega)
theorem pickN_no {p : Cell → Bool} {n : Int} {l : List Cell} {i : Nat} {c : Cell} (h : l[i]? = some c) (h2 : p c = false) : ((l.take (i + 1)).filter p).take n.toNat = ((l.take i).filter p).take n.toNat := by
  rw [take_next h, List.filter_append, List.filter_cons_of_neg (by rw [h2]; decide), List.filter_nil, List.append_nil]
theorem pickN_full {p : Cell → Bool} {n : Int} {l : List Cell} {i : Nat} (h3 : ¬ ((((l.take i).filter p).take n.toNat).length : Int) < n) (j : Nat) (hj : i ≤ j) : ((l.take j).filter p).take n.toNat = ((l.take i).filter p).take n.toNat := by
  have : l.take j = l.take i ++ (l.drop i).take (j - i) := by rw [← List.take_add]; congr 1; omega
  rw [this, List.filter_append]
  exact takeN_ge _ (by omega)
theorem pickN_len {p : Cell → Bool} {n : Int} {l : List Cell} {i : Nat} : (((l.take i).filter p).take n.toNat).length ≤ i := by
  rw [List.length_take]
  have := List.length_filter_le p (l.take i)
  rw [List.length_take] at this
  omega

theorem f15_ok {v : AV} {l : List Cell} (hA : Arr H 5 v (l.map Cell.enc)) (hl : l.length < 4294967296) (f t : List Nat) (n : Int) :
    FnOk Try.prog 15 [v, .agg [.str f, .str t], .int .i64 n] H fun r G => r = outV H.nx 3 (rowsL f t n l).length ∧ G = H.ext (outL 3 ((rowsL f t n l).map Cell.row)) := by
  refine FnOk.assume fun hok => ?_
  have hf20 := f20_ok (hA.ext [.row true 2 [[.str f, .str t]]]) hl f t
  rw [← liveN_within]
  have hml : (withinL f t l).length ≤ l.length := List.length_filter_le _ _
  revert hf20 hml
  generalize withinL f t l = m
  intro hf20 hml
  rw [show (liveN n m).length = ((liveN n m).map Cell.row).length from (List.length_map ..).symm]
  refine FnOk.dropV (Cell.map_row · _) ?_
  rw [List.length_map]
  refine FnOk.of_WW Try.func15 rfl C15ok R15ok E0 good_E0 ?_
  have hv : ∃ k : K, True := ⟨.z, trivial⟩
  simp only [go_sem, C15, Nat.reduceAdd, Nat.reduceSub, Nat.reduceMul, Nat.reduceDiv, Nat.reduceMod, Nat.reduceEqDiff, Nat.reduceLeDiff, Nat.reduceLT, Int.reduceLT, Int.reduceLE, Int.reduceEq, Int.reduceToNat, reduceIte, reduceCtorEq]
  refine CL.of hf20 ?_
  rintro _ _ ⟨rfl, rfl⟩
  rcases Nat.eq_zero_or_pos m.length with hm0 | hm0
  · obtain rfl := List.length_eq_zero_iff.1 hm0
    simp only [go_sem, Nat.reduceAdd, Nat.reduceSub, Nat.reduceMul, Nat.reduceDiv, Nat.reduceMod, Nat.reduceEqDiff, Nat.reduceLeDiff, Nat.reduceLT, Int.reduceLT, Int.reduceLE, Int.reduceEq, Int.reduceToNat, reduceIte, reduceCtorEq, List.length_nil, List.map_nil, List.length_cons, List.map_cons, List.replicate_succ, List.replicate_zero, List.set_cons_zero, List.take_succ_cons, List.take_zero, List.take_nil, List.length_append, List.map_append, List.cons_append, List.nil_append, List.drop_succ_cons, List.append_nil]
    refine LL.st good_E0 (fun i : Nat => 0) (fun i => True)
      (fun i => [((.o (.o (.o .z))), .nils), ((.o (.i (.i .z))), .int .i64 0), ((.i (.i (.i .z))), .int .i64 0)])
      (fun i => [.dead]) ?_ 0 (σ := [0]) (Wk.mk' rfl (by decide) (by simp only [go_sem, List.length_nil, Nat.reduceAdd, Nat.reduceSub, Nat.reduceMul, Nat.reduceDiv, Nat.reduceMod, Nat.reduceEqDiff, Nat.reduceLeDiff, Nat.reduceLT, Int.reduceLT, Int.reduceLE, Int.reduceEq, Int.reduceToNat, reduceIte, reduceCtorEq]) (by simp only [go_sem, List.length_nil, Nat.reduceAdd, Nat.reduceSub, Nat.reduceMul, Nat.reduceDiv, Nat.reduceMod, Nat.reduceEqDiff, Nat.reduceLeDiff, Nat.reduceLT, Int.reduceLT, Int.reduceLE, Int.reduceEq, Int.reduceToNat, reduceIte, reduceCtorEq])) trivial
    rintro i -
    simp only [go_sem, C15L0, Nat.reduceAdd, Nat.reduceSub, Nat.reduceMul, Nat.reduceDiv, Nat.reduceMod, Nat.reduceEqDiff, Nat.reduceLeDiff, Nat.reduceLT, Int.reduceLT, Int.reduceLE, Int.reduceEq, Int.reduceToNat, reduceIte, reduceCtorEq]
    have h0 : liveN n [] = [] := by simp [liveN]
    rw [h0]
    exact ⟨_, 0, rfl, rfl, rfl⟩
  · simp only [go_sem, Nat.reduceAdd, Nat.reduceSub, Nat.reduceMul, Nat.reduceDiv, Nat.reduceMod, Nat.reduceEqDiff, Nat.reduceLeDiff, Nat.reduceLT, Int.reduceLT, Int.reduceLE, Int.reduceEq, Int.reduceToNat, reduceIte, reduceCtorEq, outV_pos hm0, outL_pos (show 0 < (m.map Cell.enc).length by rw [List.length_map]; exact hm0), List.length_nil, List.map_nil, List.length_cons, List.map_cons, List.replicate_succ, List.replicate_zero, List.set_cons_zero, List.take_succ_cons, List.take_zero, List.take_nil, List.length_append, List.map_append, List.cons_append, List.nil_append, List.drop_succ_cons, List.append_nil]
    refine LL.st good_E0 (fun i : Nat => m.length - i) (fun i => i ≤ m.length)
      (fun i => [((.i .z), .int .i64 n), ((.o (.o (.o .z))), outV (H.key 2) 3 (liveN n (m.take i)).length), ((.i (.o (.i .z))), .slice (H.key 1) 0 m.length 5 false m.length), ((.o (.i (.i .z))), .int .i64 m.length), ((.i (.i (.i .z))), .int .i64 i)])
      (fun i => [.row true 2 [[.str f, .str t]], .row true 5 (m.map Cell.enc), outB 3 ((liveN n (m.take i)).map Cell.row)]) ?_ 0 (σ := [0, 1, 2]) (Wk.mk' rfl (by decide) (by simp only [go_sem, List.take_zero, liveN, List.filter_nil, List.take_nil, List.length_nil, List.map_nil, Cell.map_rens, Nat.reduceAdd, Nat.reduceSub, Nat.reduceMul, Nat.reduceDiv, Nat.reduceMod, Nat.reduceEqDiff, Nat.reduceLeDiff, Nat.reduceLT, Int.reduceLT, Int.reduceLE, Int.reduceEq, Int.reduceToNat, reduceIte, reduceCtorEq]) (by simp only [go_sem, List.take_zero, liveN, List.filter_nil, List.take_nil, List.length_nil, List.map_nil, Cell.map_rens, Nat.reduceAdd, Nat.reduceSub, Nat.reduceMul, Nat.reduceDiv, Nat.reduceMod, Nat.reduceEqDiff, Nat.reduceLeDiff, Nat.reduceLT, Int.reduceLT, Int.reduceLE, Int.reduceEq, Int.reduceToNat, reduceIte, reduceCtorEq])) (by omega)
    rintro i hi
    by_cases hlt : i < m.length
    · have hw := wrap_succ (n := i) (by omega)
      have hci : (i : Int) < (m.length : Int) := by omega
      have hsi : i + 1 ≤ m.length := by omega
      have hgetm : m[i]? = some m[i] := List.getElem?_eq_getElem hlt
      have hmi : (m.map Cell.enc)[i]? = some m[i].enc := by rw [List.getElem?_map, hgetm]; rfl
      have hlen := pickN_len (p := fun c => decide (there c)) (n := n) (l := m) (i := i)
      have hmx2 : (2 * 1 + 192) * 40 ≤ 281474976710656 := by decide
      rcases hx : liveN n (m.take i) with _ | ⟨x, xs⟩ <;> unfold liveN at hx
      · rw [hx] at hlen
        simp only [go_sem, C15L0, Nat.reduceAdd, Nat.reduceSub, Nat.reduceMul, Nat.reduceDiv, Nat.reduceMod, Nat.reduceEqDiff, Nat.reduceLeDiff, Nat.reduceLT, Int.reduceLT, Int.reduceLE, Int.reduceEq, Int.reduceToNat, reduceIte, reduceCtorEq, List.length_nil, List.map_nil, List.length_cons, List.map_cons, List.replicate_succ, List.replicate_zero, List.set_cons_zero, List.take_succ_cons, List.take_zero, List.take_nil, List.length_append, List.map_append, List.cons_append, List.nil_append, List.drop_succ_cons, List.append_nil, hgetm, hw, hci, hsi, hmi, hmx2,  Cell.enc]
        refine CL.bool (f45_ok m[i]) (fun h1 => ?_) (fun h1 => ?_)
        · simp only [go_sem, Nat.reduceAdd, Nat.reduceSub, Nat.reduceMul, Nat.reduceDiv, Nat.reduceMod, Nat.reduceEqDiff, Nat.reduceLeDiff, Nat.reduceLT, Int.reduceLT, Int.reduceLE, Int.reduceEq, Int.reduceToNat, reduceIte, reduceCtorEq, List.length_nil, List.map_nil, List.length_cons, List.map_cons, List.replicate_succ, List.replicate_zero, List.set_cons_zero, List.take_succ_cons, List.take_zero, List.take_nil, List.length_append, List.map_append, List.cons_append, List.nil_append, List.drop_succ_cons, List.append_nil, hgetm, hw, hci, hsi, hmi, hmx2,  Cell.enc]
          refine ⟨fun h2 => ?_, fun h2 => ?_⟩
          · have hnew := pickN_yes (p := fun c => decide (there c)) (n := n) hgetm (decide_eq_true h1) (by rw [hx]; simp only [List.length_cons, List.length_nil]; omega)
            rw [hx] at hnew
            try simp only [go_sem, Nat.reduceAdd, Nat.reduceSub, Nat.reduceMul, Nat.reduceDiv, Nat.reduceMod, Nat.reduceEqDiff, Nat.reduceLeDiff, Nat.reduceLT, Int.reduceLT, Int.reduceLE, Int.reduceEq, Int.reduceToNat, reduceIte, reduceCtorEq, List.length_nil, List.map_nil, List.length_cons, List.map_cons, List.replicate_succ, List.replicate_zero, List.set_cons_zero, List.take_succ_cons, List.take_zero, List.take_nil, List.length_append, List.map_append, List.cons_append, List.nil_append, List.drop_succ_cons, List.append_nil, hgetm, hw, hci, hsi, hmi, hmx2,  Cell.enc]
            refine ⟨i + 1, by show m.length - (i + 1) < m.length - i; omega, ?_, _, [0, 1, 5], rfl, Wk.mk' rfl (by decide) (by simp only [go_sem, List.length_map, Cell.map_rens, Cell.map_row, hgetm, hnew, Cell.row, liveN, List.length_nil, List.map_nil, List.length_cons, List.map_cons, List.replicate_succ, List.replicate_zero, List.set_cons_zero, List.take_succ_cons, List.take_zero, List.take_nil, List.length_append, List.map_append, List.cons_append, List.nil_append, List.drop_succ_cons, List.append_nil, Nat.reduceAdd, Nat.reduceSub, Nat.reduceMul, Nat.reduceDiv, Nat.reduceMod, Nat.reduceEqDiff, Nat.reduceLeDiff, Nat.reduceLT, Int.reduceLT, Int.reduceLE, Int.reduceEq, Int.reduceToNat, reduceIte, reduceCtorEq]) (by simp only [go_sem, List.length_map, Cell.map_rens, Cell.map_row, hgetm, hnew, Cell.row, liveN, List.length_nil, List.map_nil, List.length_cons, List.map_cons, List.replicate_succ, List.replicate_zero, List.set_cons_zero, List.take_succ_cons, List.take_zero, List.take_nil, List.length_append, List.map_append, List.cons_append, List.nil_append, List.drop_succ_cons, List.append_nil, Nat.reduceAdd, Nat.reduceSub, Nat.reduceMul, Nat.reduceDiv, Nat.reduceMod, Nat.reduceEqDiff, Nat.reduceLeDiff, Nat.reduceLT, Int.reduceLT, Int.reduceLE, Int.reduceEq, Int.reduceToNat, reduceIte, reduceCtorEq])⟩
            omega
          · have hnew := pickN_full (p := fun c => decide (there c)) (n := n) (l := m) (i := i) (by rw [hx]; simp only [List.length_cons, List.length_nil]; omega) (i + 1) (by omega)
            rw [hx] at hnew
            try simp only [go_sem, Nat.reduceAdd, Nat.reduceSub, Nat.reduceMul, Nat.reduceDiv, Nat.reduceMod, Nat.reduceEqDiff, Nat.reduceLeDiff, Nat.reduceLT, Int.reduceLT, Int.reduceLE, Int.reduceEq, Int.reduceToNat, reduceIte, reduceCtorEq, List.length_nil, List.map_nil, List.length_cons, List.map_cons, List.replicate_succ, List.replicate_zero, List.set_cons_zero, List.take_succ_cons, List.take_zero, List.take_nil, List.length_append, List.map_append, List.cons_append, List.nil_append, List.drop_succ_cons, List.append_nil, hgetm, hw, hci, hsi, hmi, hmx2,  Cell.enc]
            refine ⟨i + 1, by show m.length - (i + 1) < m.length - i; omega, ?_, _, [0, 1, 2], rfl, Wk.mk' rfl (by decide) (by simp only [go_sem, List.length_map, Cell.map_rens, Cell.map_row, hgetm, hnew, Cell.row, liveN, List.length_nil, List.map_nil, List.length_cons, List.map_cons, List.replicate_succ, List.replicate_zero, List.set_cons_zero, List.take_succ_cons, List.take_zero, List.take_nil, List.length_append, List.map_append, List.cons_append, List.nil_append, List.drop_succ_cons, List.append_nil, Nat.reduceAdd, Nat.reduceSub, Nat.reduceMul, Nat.reduceDiv, Nat.reduceMod, Nat.reduceEqDiff, Nat.reduceLeDiff, Nat.reduceLT, Int.reduceLT, Int.reduceLE, Int.reduceEq, Int.reduceToNat, reduceIte, reduceCtorEq]) (by simp only [go_sem, List.length_map, Cell.map_rens, Cell.map_row, hgetm, hnew, Cell.row, liveN, List.length_nil, List.map_nil, List.length_cons, List.map_cons, List.replicate_succ, List.replicate_zero, List.set_cons_zero, List.take_succ_cons, List.take_zero, List.take_nil, List.length_append, List.map_append, List.cons_append, List.nil_append, List.drop_succ_cons, List.append_nil, Nat.reduceAdd, Nat.reduceSub, Nat.reduceMul, Nat.reduceDiv, Nat.reduceMod, Nat.reduceEqDiff, Nat.reduceLeDiff, Nat.reduceLT, Int.reduceLT, Int.reduceLE, Int.reduceEq, Int.reduceToNat, reduceIte, reduceCtorEq])⟩
            omega
        · have hnew := pickN_no (p := fun c => decide (there c)) (n := n) hgetm (decide_eq_false h1)
          rw [hx] at hnew
          simp only [go_sem, Nat.reduceAdd, Nat.reduceSub, Nat.reduceMul, Nat.reduceDiv, Nat.reduceMod, Nat.reduceEqDiff, Nat.reduceLeDiff, Nat.reduceLT, Int.reduceLT, Int.reduceLE, Int.reduceEq, Int.reduceToNat, reduceIte, reduceCtorEq, List.length_nil, List.map_nil, List.length_cons, List.map_cons, List.replicate_succ, List.replicate_zero, List.set_cons_zero, List.take_succ_cons, List.take_zero, List.take_nil, List.length_append, List.map_append, List.cons_append, List.nil_append, List.drop_succ_cons, List.append_nil, hgetm, hw, hci, hsi, hmi, hmx2,  Cell.enc]
          refine ⟨i + 1, by show m.length - (i + 1) < m.length - i; omega, ?_, _, [0, 1, 2], rfl, Wk.mk' rfl (by decide) (by simp only [go_sem, List.length_map, Cell.map_rens, Cell.map_row, hgetm, hnew, Cell.row, liveN, List.length_nil, List.map_nil, List.length_cons, List.map_cons, List.replicate_succ, List.replicate_zero, List.set_cons_zero, List.take_succ_cons, List.take_zero, List.take_nil, List.length_append, List.map_append, List.cons_append, List.nil_append, List.drop_succ_cons, List.append_nil, Nat.reduceAdd, Nat.reduceSub, Nat.reduceMul, Nat.reduceDiv, Nat.reduceMod, Nat.reduceEqDiff, Nat.reduceLeDiff, Nat.reduceLT, Int.reduceLT, Int.reduceLE, Int.reduceEq, Int.reduceToNat, reduceIte, reduceCtorEq]) (by simp only [go_sem, List.length_map, Cell.map_rens, Cell.map_row, hgetm, hnew, Cell.row, liveN, List.length_nil, List.map_nil, List.length_cons, List.map_cons, List.replicate_succ, List.replicate_zero, List.set_cons_zero, List.take_succ_cons, List.take_zero, List.take_nil, List.length_append, List.map_append, List.cons_append, List.nil_append, List.drop_succ_cons, List.append_nil, Nat.reduceAdd, Nat.reduceSub, Nat.reduceMul, Nat.reduceDiv, Nat.reduceMod, Nat.reduceEqDiff, Nat.reduceLeDiff, Nat.reduceLT, Int.reduceLT, Int.reduceLE, Int.reduceEq, Int.reduceToNat, reduceIte, reduceCtorEq])⟩
          omega

      · rw [hx] at hlen
        simp only [List.length_cons] at hlen
        have hfull : ¬ xs.length + 1 ≤ xs.length := by omega
        have htk : List.take xs.length (xs.map Cell.row) = xs.map Cell.row := List.take_of_length_le (by simp)
        have hself : xs.length ≤ xs.length := Nat.le_refl _
        have h5 : xs.length < 4294967296 := Nat.lt_of_lt_of_le (Nat.lt_of_succ_le hlen) (Nat.le_trans hi (Nat.le_trans hml (Nat.le_of_lt hl)))
        have hmx : (2 * (xs.length + 1 + 1) + 192) * 40 ≤ 281474976710656 := mx40 h5
        simp only [go_sem, C15L0, Nat.reduceAdd, Nat.reduceSub, Nat.reduceMul, Nat.reduceDiv, Nat.reduceMod, Nat.reduceEqDiff, Nat.reduceLeDiff, Nat.reduceLT, Int.reduceLT, Int.reduceLE, Int.reduceEq, Int.reduceToNat, reduceIte, reduceCtorEq, List.length_nil, List.map_nil, List.length_cons, List.map_cons, List.replicate_succ, List.replicate_zero, List.set_cons_zero, List.take_succ_cons, List.take_zero, List.take_nil, List.length_append, List.map_append, List.cons_append, List.nil_append, List.drop_succ_cons, List.append_nil, hgetm, hw, hci, hsi, hmi, hmx2, hfull, htk, hself, hmx,  Cell.enc]
        refine CL.bool (f45_ok m[i]) (fun h1 => ?_) (fun h1 => ?_)
        · simp only [go_sem, Nat.reduceAdd, Nat.reduceSub, Nat.reduceMul, Nat.reduceDiv, Nat.reduceMod, Nat.reduceEqDiff, Nat.reduceLeDiff, Nat.reduceLT, Int.reduceLT, Int.reduceLE, Int.reduceEq, Int.reduceToNat, reduceIte, reduceCtorEq, List.length_nil, List.map_nil, List.length_cons, List.map_cons, List.replicate_succ, List.replicate_zero, List.set_cons_zero, List.take_succ_cons, List.take_zero, List.take_nil, List.length_append, List.map_append, List.cons_append, List.nil_append, List.drop_succ_cons, List.append_nil, hgetm, hw, hci, hsi, hmi, hmx2, hfull, htk, hself, hmx,  Cell.enc]
          refine ⟨fun h2 => ?_, fun h2 => ?_⟩
          · have hnew := pickN_yes (p := fun c => decide (there c)) (n := n) hgetm (decide_eq_true h1) (by rw [hx]; simp only [List.length_cons, List.length_nil]; omega)
            rw [hx] at hnew
            try simp only [go_sem, Nat.reduceAdd, Nat.reduceSub, Nat.reduceMul, Nat.reduceDiv, Nat.reduceMod, Nat.reduceEqDiff, Nat.reduceLeDiff, Nat.reduceLT, Int.reduceLT, Int.reduceLE, Int.reduceEq, Int.reduceToNat, reduceIte, reduceCtorEq, List.length_nil, List.map_nil, List.length_cons, List.map_cons, List.replicate_succ, List.replicate_zero, List.set_cons_zero, List.take_succ_cons, List.take_zero, List.take_nil, List.length_append, List.map_append, List.cons_append, List.nil_append, List.drop_succ_cons, List.append_nil, hgetm, hw, hci, hsi, hmi, hmx2, hfull, htk, hself, hmx,  Cell.enc]
            refine ⟨i + 1, by show m.length - (i + 1) < m.length - i; omega, ?_, _, [0, 1, 5], rfl, Wk.mk' rfl (by decide) (by simp only [go_sem, List.length_map, Cell.map_rens, Cell.map_row, hgetm, hnew, Cell.row, liveN, List.length_nil, List.map_nil, List.length_cons, List.map_cons, List.replicate_succ, List.replicate_zero, List.set_cons_zero, List.take_succ_cons, List.take_zero, List.take_nil, List.length_append, List.map_append, List.cons_append, List.nil_append, List.drop_succ_cons, List.append_nil, Nat.reduceAdd, Nat.reduceSub, Nat.reduceMul, Nat.reduceDiv, Nat.reduceMod, Nat.reduceEqDiff, Nat.reduceLeDiff, Nat.reduceLT, Int.reduceLT, Int.reduceLE, Int.reduceEq, Int.reduceToNat, reduceIte, reduceCtorEq]) (by simp only [go_sem, List.length_map, Cell.map_rens, Cell.map_row, hgetm, hnew, Cell.row, liveN, List.length_nil, List.map_nil, List.length_cons, List.map_cons, List.replicate_succ, List.replicate_zero, List.set_cons_zero, List.take_succ_cons, List.take_zero, List.take_nil, List.length_append, List.map_append, List.cons_append, List.nil_append, List.drop_succ_cons, List.append_nil, Nat.reduceAdd, Nat.reduceSub, Nat.reduceMul, Nat.reduceDiv, Nat.reduceMod, Nat.reduceEqDiff, Nat.reduceLeDiff, Nat.reduceLT, Int.reduceLT, Int.reduceLE, Int.reduceEq, Int.reduceToNat, reduceIte, reduceCtorEq])⟩
            omega
          · have hnew := pickN_full (p := fun c => decide (there c)) (n := n) (l := m) (i := i) (by rw [hx]; simp only [List.length_cons, List.length_nil]; omega) (i + 1) (by omega)
            rw [hx] at hnew
            try simp only [go_sem, Nat.reduceAdd, Nat.reduceSub, Nat.reduceMul, Nat.reduceDiv, Nat.reduceMod, Nat.reduceEqDiff, Nat.reduceLeDiff, Nat.reduceLT, Int.reduceLT, Int.reduceLE, Int.reduceEq, Int.reduceToNat, reduceIte, reduceCtorEq, List.length_nil, List.map_nil, List.length_cons, List.map_cons, List.replicate_succ, List.replicate_zero, List.set_cons_zero, List.take_succ_cons, List.take_zero, List.take_nil, List.length_append, List.map_append, List.cons_append, List.nil_append, List.drop_succ_cons, List.append_nil, hgetm, hw, hci, hsi, hmi, hmx2, hfull, htk, hself, hmx,  Cell.enc]
            refine ⟨i + 1, by show m.length - (i + 1) < m.length - i; omega, ?_, _, [0, 1, 2], rfl, Wk.mk' rfl (by decide) (by simp only [go_sem, List.length_map, Cell.map_rens, Cell.map_row, hgetm, hnew, Cell.row, liveN, List.length_nil, List.map_nil, List.length_cons, List.map_cons, List.replicate_succ, List.replicate_zero, List.set_cons_zero, List.take_succ_cons, List.take_zero, List.take_nil, List.length_append, List.map_append, List.cons_append, List.nil_append, List.drop_succ_cons, List.append_nil, Nat.reduceAdd, Nat.reduceSub, Nat.reduceMul, Nat.reduceDiv, Nat.reduceMod, Nat.reduceEqDiff, Nat.reduceLeDiff, Nat.reduceLT, Int.reduceLT, Int.reduceLE, Int.reduceEq, Int.reduceToNat, reduceIte, reduceCtorEq]) (by simp only [go_sem, List.length_map, Cell.map_rens, Cell.map_row, hgetm, hnew, Cell.row, liveN, List.length_nil, List.map_nil, List.length_cons, List.map_cons, List.replicate_succ, List.replicate_zero, List.set_cons_zero, List.take_succ_cons, List.take_zero, List.take_nil, List.length_append, List.map_append, List.cons_append, List.nil_append, List.drop_succ_cons, List.append_nil, Nat.reduceAdd, Nat.reduceSub, Nat.reduceMul, Nat.reduceDiv, Nat.reduceMod, Nat.reduceEqDiff, Nat.reduceLeDiff, Nat.reduceLT, Int.reduceLT, Int.reduceLE, Int.reduceEq, Int.reduceToNat, reduceIte, reduceCtorEq])⟩
            omega
        · have hnew := pickN_no (p := fun c => decide (there c)) (n := n) hgetm (decide_eq_false h1)
          rw [hx] at hnew
          simp only [go_sem, Nat.reduceAdd, Nat.reduceSub, Nat.reduceMul, Nat.reduceDiv, Nat.reduceMod, Nat.reduceEqDiff, Nat.reduceLeDiff, Nat.reduceLT, Int.reduceLT, Int.reduceLE, Int.reduceEq, Int.reduceToNat, reduceIte, reduceCtorEq, List.length_nil, List.map_nil, List.length_cons, List.map_cons, List.replicate_succ, List.replicate_zero, List.set_cons_zero, List.take_succ_cons, List.take_zero, List.take_nil, List.length_append, List.map_append, List.cons_append, List.nil_append, List.drop_succ_cons, List.append_nil, hgetm, hw, hci, hsi, hmi, hmx2, hfull, htk, hself, hmx,  Cell.enc]
          refine ⟨i + 1, by show m.length - (i + 1) < m.length - i; omega, ?_, _, [0, 1, 2], rfl, Wk.mk' rfl (by decide) (by simp only [go_sem, List.length_map, Cell.map_rens, Cell.map_row, hgetm, hnew, Cell.row, liveN, List.length_nil, List.map_nil, List.length_cons, List.map_cons, List.replicate_succ, List.replicate_zero, List.set_cons_zero, List.take_succ_cons, List.take_zero, List.take_nil, List.length_append, List.map_append, List.cons_append, List.nil_append, List.drop_succ_cons, List.append_nil, Nat.reduceAdd, Nat.reduceSub, Nat.reduceMul, Nat.reduceDiv, Nat.reduceMod, Nat.reduceEqDiff, Nat.reduceLeDiff, Nat.reduceLT, Int.reduceLT, Int.reduceLE, Int.reduceEq, Int.reduceToNat, reduceIte, reduceCtorEq]) (by simp only [go_sem, List.length_map, Cell.map_rens, Cell.map_row, hgetm, hnew, Cell.row, liveN, List.length_nil, List.map_nil, List.length_cons, List.map_cons, List.replicate_succ, List.replicate_zero, List.set_cons_zero, List.take_succ_cons, List.take_zero, List.take_nil, List.length_append, List.map_append, List.cons_append, List.nil_append, List.drop_succ_cons, List.append_nil, Nat.reduceAdd, Nat.reduceSub, Nat.reduceMul, Nat.reduceDiv, Nat.reduceMod, Nat.reduceEqDiff, Nat.reduceLeDiff, Nat.reduceLT, Int.reduceLT, Int.reduceLE, Int.reduceEq, Int.reduceToNat, reduceIte, reduceCtorEq])⟩
          omega

    · have hci : ¬ (i : Int) < (m.length : Int) := by omega
      simp only [go_sem, C15L0, Nat.reduceAdd, Nat.reduceSub, Nat.reduceMul, Nat.reduceDiv, Nat.reduceMod, Nat.reduceEqDiff, Nat.reduceLeDiff, Nat.reduceLT, Int.reduceLT, Int.reduceLE, Int.reduceEq, Int.reduceToNat, reduceIte, reduceCtorEq, List.length_map, hci]
      rw [take_all (by omega)]
      exact ⟨_, 2, rfl, rfl, rfl⟩

end Go.Proofs
/- index: the reference rows of a span, walked. -/

set_option linter.all false
set_option maxRecDepth 100000
namespace Go.Proofs
open Go Go.Ev
variable {H : Heap}

theorem f16_ok {v : AV} {l : List Cell} (hA : Arr H 5 v (l.map Cell.enc)) (hl : l.length < 4294967296) (f t : List Nat) (n : Int) :
    FnOk Try.prog 16 [v, .agg [.str f, .str t], .int .i64 n] H fun r G => r = outV H.nx 3 (rowsL f t n l).length ∧ G = H.ext (outL 3 ((rowsL f t n l).map Cell.row)) := by
  refine FnOk.assume fun hok => ?_
  rw [show (rowsL f t n l).length = ((rowsL f t n l).map Cell.row).length from (List.length_map ..).symm]
  refine FnOk.dropV (Cell.map_row · _) ?_
  rw [List.length_map]
  refine FnOk.of_WW Try.func16 rfl C16ok R16ok E0 good_E0 ?_
  rcases hA.forms with ⟨rfl, hnil⟩ | ⟨k, off, ex, cap, rfl, hrho⟩
  · have hn0 : l.length = 0 := by simpa using hnil
    simp only [go_sem, C16, Nat.reduceAdd, Nat.reduceSub, Nat.reduceMul, Nat.reduceDiv, Nat.reduceMod, Nat.reduceEqDiff, Nat.reduceLeDiff, Nat.reduceLT, Int.reduceLT, Int.reduceLE, Int.reduceEq, Int.reduceToNat, reduceIte, reduceCtorEq]
    refine LL.st good_E0 (fun i : Nat => l.length - i) (fun i => i ≤ l.length)
      (fun i => [(.z, .nils), ((.i .z), .int .i64 n), ((.i (.o .z)), .ptr (H.key 0) 0), ((.o (.o (.o .z))), outV (H.key 1) 3 (rowsL f t n (l.take i)).length), ((.i (.o (.o .z))), .int .i64 i)])
      (fun i => [.row true 2 [[.str f, .str t]], outB 3 ((rowsL f t n (l.take i)).map Cell.row)]) ?_ 0 (σ := [0, 1]) (Wk.mk' rfl (by decide) (by simp only [go_sem, List.length_map, hn0, List.take_zero, rowsL, List.filter_nil, List.take_nil, List.length_nil, List.map_nil, Nat.reduceAdd, Nat.reduceSub, Nat.reduceMul, Nat.reduceDiv, Nat.reduceMod, Nat.reduceEqDiff, Nat.reduceLeDiff, Nat.reduceLT, Int.reduceLT, Int.reduceLE, Int.reduceEq, Int.reduceToNat, reduceIte, reduceCtorEq]) (by simp only [go_sem, List.length_map, hn0, List.take_zero, rowsL, List.filter_nil, List.take_nil, List.length_nil, List.map_nil, Nat.reduceAdd, Nat.reduceSub, Nat.reduceMul, Nat.reduceDiv, Nat.reduceMod, Nat.reduceEqDiff, Nat.reduceLeDiff, Nat.reduceLT, Int.reduceLT, Int.reduceLE, Int.reduceEq, Int.reduceToNat, reduceIte, reduceCtorEq])) (by omega)
    rintro i hi
    by_cases hlt : i < l.length
    · exact absurd hlt (by omega)
    · have hci : ¬ (i : Int) < (l.length : Int) := by omega
      simp only [go_sem, C16L0, Nat.reduceAdd, Nat.reduceSub, Nat.reduceMul, Nat.reduceDiv, Nat.reduceMod, Nat.reduceEqDiff, Nat.reduceLeDiff, Nat.reduceLT, Int.reduceLT, Int.reduceLE, Int.reduceEq, Int.reduceToNat, reduceIte, reduceCtorEq, List.length_map, hci, show ¬ (i : Int) < 0 by omega]
      rw [take_all (by omega)]
      exact ⟨_, 1, rfl, rfl, rfl⟩
  · simp only [go_sem, C16, Nat.reduceAdd, Nat.reduceSub, Nat.reduceMul, Nat.reduceDiv, Nat.reduceMod, Nat.reduceEqDiff, Nat.reduceLeDiff, Nat.reduceLT, Int.reduceLT, Int.reduceLE, Int.reduceEq, Int.reduceToNat, reduceIte, reduceCtorEq]
    refine LL.st good_E0 (fun i : Nat => l.length - i) (fun i => i ≤ l.length)
      (fun i => [(.z, .slice k off (l.map Cell.enc).length 5 ex cap), ((.i .z), .int .i64 n), ((.i (.o .z)), .ptr (H.key 0) 0), ((.o (.o (.o .z))), outV (H.key 1) 3 (rowsL f t n (l.take i)).length), ((.i (.o (.o .z))), .int .i64 i)])
      (fun i => [.row true 2 [[.str f, .str t]], outB 3 ((rowsL f t n (l.take i)).map Cell.row)]) ?_ 0 (σ := [0, 1]) (Wk.mk' rfl (by decide) (by simp only [go_sem, List.length_map, hrho, List.take_zero, rowsL, List.filter_nil, List.take_nil, List.length_nil, List.map_nil, Nat.reduceAdd, Nat.reduceSub, Nat.reduceMul, Nat.reduceDiv, Nat.reduceMod, Nat.reduceEqDiff, Nat.reduceLeDiff, Nat.reduceLT, Int.reduceLT, Int.reduceLE, Int.reduceEq, Int.reduceToNat, reduceIte, reduceCtorEq]) (by simp only [go_sem, List.length_map, hrho, List.take_zero, rowsL, List.filter_nil, List.take_nil, List.length_nil, List.map_nil, Nat.reduceAdd, Nat.reduceSub, Nat.reduceMul, Nat.reduceDiv, Nat.reduceMod, Nat.reduceEqDiff, Nat.reduceLeDiff, Nat.reduceLT, Int.reduceLT, Int.reduceLE, Int.reduceEq, Int.reduceToNat, reduceIte, reduceCtorEq])) (by omega)
    rintro i hi
    by_cases hlt : i < l.length
    · obtain ⟨kk, r, ex', cap', wr, rows, hv, hk, hg, _, hat⟩ := hA.pick (j := i) (by simpa using hlt)
      have hrow := hat i (by simpa using hlt)
      have hgo := Heap.get_ext_old hok hg
      have hw := wrap_succ (n := i) (by omega)
      have hci : (i : Int) < (l.length : Int) := by omega
      have hsi : i + 1 ≤ l.length := by omega
      have hget : l[i]? = some l[i] := List.getElem?_eq_getElem hlt
      cases hv
      have hlen := pickN_len (p := fun c => decide (has f t c.key ∧ there c)) (n := n) (l := l) (i := i)
      have hmx2 : (2 * 1 + 192) * 40 ≤ 281474976710656 := by decide
      rcases hx : rowsL f t n (l.take i) with _ | ⟨x, xs⟩ <;> unfold rowsL at hx
      · rw [hx] at hlen
        simp only [go_sem, C16L0, Nat.reduceAdd, Nat.reduceSub, Nat.reduceMul, Nat.reduceDiv, Nat.reduceMod, Nat.reduceEqDiff, Nat.reduceLeDiff, Nat.reduceLT, Int.reduceLT, Int.reduceLE, Int.reduceEq, Int.reduceToNat, reduceIte, reduceCtorEq, List.length_nil, List.map_nil, List.length_cons, List.map_cons, List.replicate_succ, List.replicate_zero, List.set_cons_zero, List.take_succ_cons, List.take_zero, List.take_nil, List.length_append, List.map_append, List.cons_append, List.nil_append, List.drop_succ_cons, List.append_nil, List.length_map, hw, hgo, hrow, hci, hsi, List.getElem?_eq_getElem hlt, Cell.enc, hmx2]
        refine ⟨fun h2 => ?_, fun h2 => ?_⟩
        · refine CL.bool (f46_ok f t l[i].key) (fun h1 => ?_) (fun h1 => ?_)
          · simp only [go_sem, Nat.reduceAdd, Nat.reduceSub, Nat.reduceMul, Nat.reduceDiv, Nat.reduceMod, Nat.reduceEqDiff, Nat.reduceLeDiff, Nat.reduceLT, Int.reduceLT, Int.reduceLE, Int.reduceEq, Int.reduceToNat, reduceIte, reduceCtorEq, List.length_nil, List.map_nil, List.length_cons, List.map_cons, List.replicate_succ, List.replicate_zero, List.set_cons_zero, List.take_succ_cons, List.take_zero, List.take_nil, List.length_append, List.map_append, List.cons_append, List.nil_append, List.drop_succ_cons, List.append_nil, List.length_map, hw, hgo, hrow, hci, hsi, List.getElem?_eq_getElem hlt, Cell.enc, hmx2]
            refine CL.bool (f47_ok l[i]) (fun h3 => ?_) (fun h3 => ?_)
            · have hnew := pickN_yes (p := fun c => decide (has f t c.key ∧ there c)) (n := n) (l := l) (i := i) hget (decide_eq_true ⟨h1, h3⟩) (by rw [hx]; simp only [List.length_cons, List.length_nil]; omega)
              rw [hx] at hnew
              simp only [go_sem, Nat.reduceAdd, Nat.reduceSub, Nat.reduceMul, Nat.reduceDiv, Nat.reduceMod, Nat.reduceEqDiff, Nat.reduceLeDiff, Nat.reduceLT, Int.reduceLT, Int.reduceLE, Int.reduceEq, Int.reduceToNat, reduceIte, reduceCtorEq, List.length_nil, List.map_nil, List.length_cons, List.map_cons, List.replicate_succ, List.replicate_zero, List.set_cons_zero, List.take_succ_cons, List.take_zero, List.take_nil, List.length_append, List.map_append, List.cons_append, List.nil_append, List.drop_succ_cons, List.append_nil, List.length_map, hw, hgo, hrow, hci, hsi, List.getElem?_eq_getElem hlt, Cell.enc, hmx2]
              refine ⟨i + 1, by show l.length - (i + 1) < l.length - i; omega, ?_, _, [0, 4], rfl, Wk.mk' rfl (by decide) (by simp only [go_sem, hrho, List.length_map, Cell.map_rens, Cell.map_row, hnew, Cell.row, rowsL, List.length_nil, List.map_nil, List.length_cons, List.map_cons, List.replicate_succ, List.replicate_zero, List.set_cons_zero, List.take_succ_cons, List.take_zero, List.take_nil, List.length_append, List.map_append, List.cons_append, List.nil_append, List.drop_succ_cons, List.append_nil, Nat.reduceAdd, Nat.reduceSub, Nat.reduceMul, Nat.reduceDiv, Nat.reduceMod, Nat.reduceEqDiff, Nat.reduceLeDiff, Nat.reduceLT, Int.reduceLT, Int.reduceLE, Int.reduceEq, Int.reduceToNat, reduceIte, reduceCtorEq]) (by simp only [go_sem, hrho, List.length_map, Cell.map_rens, Cell.map_row, hnew, Cell.row, rowsL, List.length_nil, List.map_nil, List.length_cons, List.map_cons, List.replicate_succ, List.replicate_zero, List.set_cons_zero, List.take_succ_cons, List.take_zero, List.take_nil, List.length_append, List.map_append, List.cons_append, List.nil_append, List.drop_succ_cons, List.append_nil, Nat.reduceAdd, Nat.reduceSub, Nat.reduceMul, Nat.reduceDiv, Nat.reduceMod, Nat.reduceEqDiff, Nat.reduceLeDiff, Nat.reduceLT, Int.reduceLT, Int.reduceLE, Int.reduceEq, Int.reduceToNat, reduceIte, reduceCtorEq])⟩
              omega
            · have hnew := pickN_no (p := fun c => decide (has f t c.key ∧ there c)) (n := n) (l := l) (i := i) hget (decide_eq_false fun h => h3 h.2)
              rw [hx] at hnew
              simp only [go_sem, Nat.reduceAdd, Nat.reduceSub, Nat.reduceMul, Nat.reduceDiv, Nat.reduceMod, Nat.reduceEqDiff, Nat.reduceLeDiff, Nat.reduceLT, Int.reduceLT, Int.reduceLE, Int.reduceEq, Int.reduceToNat, reduceIte, reduceCtorEq, List.length_nil, List.map_nil, List.length_cons, List.map_cons, List.replicate_succ, List.replicate_zero, List.set_cons_zero, List.take_succ_cons, List.take_zero, List.take_nil, List.length_append, List.map_append, List.cons_append, List.nil_append, List.drop_succ_cons, List.append_nil, List.length_map, hw, hgo, hrow, hci, hsi, List.getElem?_eq_getElem hlt, Cell.enc, hmx2]
              refine ⟨i + 1, by show l.length - (i + 1) < l.length - i; omega, ?_, _, [0, 1], rfl, Wk.mk' rfl (by decide) (by simp only [go_sem, hrho, List.length_map, Cell.map_rens, Cell.map_row, hnew, Cell.row, rowsL, List.length_nil, List.map_nil, List.length_cons, List.map_cons, List.replicate_succ, List.replicate_zero, List.set_cons_zero, List.take_succ_cons, List.take_zero, List.take_nil, List.length_append, List.map_append, List.cons_append, List.nil_append, List.drop_succ_cons, List.append_nil, Nat.reduceAdd, Nat.reduceSub, Nat.reduceMul, Nat.reduceDiv, Nat.reduceMod, Nat.reduceEqDiff, Nat.reduceLeDiff, Nat.reduceLT, Int.reduceLT, Int.reduceLE, Int.reduceEq, Int.reduceToNat, reduceIte, reduceCtorEq]) (by simp only [go_sem, hrho, List.length_map, Cell.map_rens, Cell.map_row, hnew, Cell.row, rowsL, List.length_nil, List.map_nil, List.length_cons, List.map_cons, List.replicate_succ, List.replicate_zero, List.set_cons_zero, List.take_succ_cons, List.take_zero, List.take_nil, List.length_append, List.map_append, List.cons_append, List.nil_append, List.drop_succ_cons, List.append_nil, Nat.reduceAdd, Nat.reduceSub, Nat.reduceMul, Nat.reduceDiv, Nat.reduceMod, Nat.reduceEqDiff, Nat.reduceLeDiff, Nat.reduceLT, Int.reduceLT, Int.reduceLE, Int.reduceEq, Int.reduceToNat, reduceIte, reduceCtorEq])⟩
              omega
          · have hnew := pickN_no (p := fun c => decide (has f t c.key ∧ there c)) (n := n) (l := l) (i := i) hget (decide_eq_false fun h => h1 h.1)
            rw [hx] at hnew
            simp only [go_sem, Nat.reduceAdd, Nat.reduceSub, Nat.reduceMul, Nat.reduceDiv, Nat.reduceMod, Nat.reduceEqDiff, Nat.reduceLeDiff, Nat.reduceLT, Int.reduceLT, Int.reduceLE, Int.reduceEq, Int.reduceToNat, reduceIte, reduceCtorEq, List.length_nil, List.map_nil, List.length_cons, List.map_cons, List.replicate_succ, List.replicate_zero, List.set_cons_zero, List.take_succ_cons, List.take_zero, List.take_nil, List.length_append, List.map_append, List.cons_append, List.nil_append, List.drop_succ_cons, List.append_nil, List.length_map, hw, hgo, hrow, hci, hsi, List.getElem?_eq_getElem hlt, Cell.enc, hmx2]
            refine ⟨i + 1, by show l.length - (i + 1) < l.length - i; omega, ?_, _, [0, 1], rfl, Wk.mk' rfl (by decide) (by simp only [go_sem, hrho, List.length_map, Cell.map_rens, Cell.map_row, hnew, Cell.row, rowsL, List.length_nil, List.map_nil, List.length_cons, List.map_cons, List.replicate_succ, List.replicate_zero, List.set_cons_zero, List.take_succ_cons, List.take_zero, List.take_nil, List.length_append, List.map_append, List.cons_append, List.nil_append, List.drop_succ_cons, List.append_nil, Nat.reduceAdd, Nat.reduceSub, Nat.reduceMul, Nat.reduceDiv, Nat.reduceMod, Nat.reduceEqDiff, Nat.reduceLeDiff, Nat.reduceLT, Int.reduceLT, Int.reduceLE, Int.reduceEq, Int.reduceToNat, reduceIte, reduceCtorEq]) (by simp only [go_sem, hrho, List.length_map, Cell.map_rens, Cell.map_row, hnew, Cell.row, rowsL, List.length_nil, List.map_nil, List.length_cons, List.map_cons, List.replicate_succ, List.replicate_zero, List.set_cons_zero, List.take_succ_cons, List.take_zero, List.take_nil, List.length_append, List.map_append, List.cons_append, List.nil_append, List.drop_succ_cons, List.append_nil, Nat.reduceAdd, Nat.reduceSub, Nat.reduceMul, Nat.reduceDiv, Nat.reduceMod, Nat.reduceEqDiff, Nat.reduceLeDiff, Nat.reduceLT, Int.reduceLT, Int.reduceLE, Int.reduceEq, Int.reduceToNat, reduceIte, reduceCtorEq])⟩
            omega
        · have hnew := pickN_full (p := fun c => decide (has f t c.key ∧ there c)) (n := n) (l := l) (i := i) (by rw [hx]; simp only [List.length_cons, List.length_nil]; omega) l.length (by omega)
          rw [hx, take_all (Nat.le_refl _)] at hnew
          rw [show rowsL f t n l = _ from hnew]
          exact ⟨_, 1, rfl, rfl, rfl⟩

      · rw [hx] at hlen
        simp only [List.length_cons] at hlen
        have hfull : ¬ xs.length + 1 ≤ xs.length := by omega
        have htk : List.take xs.length (xs.map Cell.row) = xs.map Cell.row := List.take_of_length_le (by simp)
        have hself : xs.length ≤ xs.length := Nat.le_refl _
        have h5 : xs.length < 4294967296 := Nat.lt_of_lt_of_le (Nat.lt_of_succ_le hlen) (Nat.le_trans hi (Nat.le_of_lt hl))
        have hmx : (2 * (xs.length + 1 + 1) + 192) * 40 ≤ 281474976710656 := mx40 h5
        simp only [go_sem, C16L0, Nat.reduceAdd, Nat.reduceSub, Nat.reduceMul, Nat.reduceDiv, Nat.reduceMod, Nat.reduceEqDiff, Nat.reduceLeDiff, Nat.reduceLT, Int.reduceLT, Int.reduceLE, Int.reduceEq, Int.reduceToNat, reduceIte, reduceCtorEq, List.length_nil, List.map_nil, List.length_cons, List.map_cons, List.replicate_succ, List.replicate_zero, List.set_cons_zero, List.take_succ_cons, List.take_zero, List.take_nil, List.length_append, List.map_append, List.cons_append, List.nil_append, List.drop_succ_cons, List.append_nil, List.length_map, hw, hgo, hrow, hci, hsi, List.getElem?_eq_getElem hlt, Cell.enc, hmx2, hfull, htk, hself, hmx]
        refine ⟨fun h2 => ?_, fun h2 => ?_⟩
        · refine CL.bool (f46_ok f t l[i].key) (fun h1 => ?_) (fun h1 => ?_)
          · simp only [go_sem, Nat.reduceAdd, Nat.reduceSub, Nat.reduceMul, Nat.reduceDiv, Nat.reduceMod, Nat.reduceEqDiff, Nat.reduceLeDiff, Nat.reduceLT, Int.reduceLT, Int.reduceLE, Int.reduceEq, Int.reduceToNat, reduceIte, reduceCtorEq, List.length_nil, List.map_nil, List.length_cons, List.map_cons, List.replicate_succ, List.replicate_zero, List.set_cons_zero, List.take_succ_cons, List.take_zero, List.take_nil, List.length_append, List.map_append, List.cons_append, List.nil_append, List.drop_succ_cons, List.append_nil, List.length_map, hw, hgo, hrow, hci, hsi, List.getElem?_eq_getElem hlt, Cell.enc, hmx2, hfull, htk, hself, hmx]
            refine CL.bool (f47_ok l[i]) (fun h3 => ?_) (fun h3 => ?_)
            · have hnew := pickN_yes (p := fun c => decide (has f t c.key ∧ there c)) (n := n) (l := l) (i := i) hget (decide_eq_true ⟨h1, h3⟩) (by rw [hx]; simp only [List.length_cons, List.length_nil]; omega)
              rw [hx] at hnew
              simp only [go_sem, Nat.reduceAdd, Nat.reduceSub, Nat.reduceMul, Nat.reduceDiv, Nat.reduceMod, Nat.reduceEqDiff, Nat.reduceLeDiff, Nat.reduceLT, Int.reduceLT, Int.reduceLE, Int.reduceEq, Int.reduceToNat, reduceIte, reduceCtorEq, List.length_nil, List.map_nil, List.length_cons, List.map_cons, List.replicate_succ, List.replicate_zero, List.set_cons_zero, List.take_succ_cons, List.take_zero, List.take_nil, List.length_append, List.map_append, List.cons_append, List.nil_append, List.drop_succ_cons, List.append_nil, List.length_map, hw, hgo, hrow, hci, hsi, List.getElem?_eq_getElem hlt, Cell.enc, hmx2, hfull, htk, hself, hmx]
              refine ⟨i + 1, by show l.length - (i + 1) < l.length - i; omega, ?_, _, [0, 4], rfl, Wk.mk' rfl (by decide) (by simp only [go_sem, hrho, List.length_map, Cell.map_rens, Cell.map_row, hnew, Cell.row, rowsL, List.length_nil, List.map_nil, List.length_cons, List.map_cons, List.replicate_succ, List.replicate_zero, List.set_cons_zero, List.take_succ_cons, List.take_zero, List.take_nil, List.length_append, List.map_append, List.cons_append, List.nil_append, List.drop_succ_cons, List.append_nil, Nat.reduceAdd, Nat.reduceSub, Nat.reduceMul, Nat.reduceDiv, Nat.reduceMod, Nat.reduceEqDiff, Nat.reduceLeDiff, Nat.reduceLT, Int.reduceLT, Int.reduceLE, Int.reduceEq, Int.reduceToNat, reduceIte, reduceCtorEq]) (by simp only [go_sem, hrho, List.length_map, Cell.map_rens, Cell.map_row, hnew, Cell.row, rowsL, List.length_nil, List.map_nil, List.length_cons, List.map_cons, List.replicate_succ, List.replicate_zero, List.set_cons_zero, List.take_succ_cons, List.take_zero, List.take_nil, List.length_append, List.map_append, List.cons_append, List.nil_append, List.drop_succ_cons, List.append_nil, Nat.reduceAdd, Nat.reduceSub, Nat.reduceMul, Nat.reduceDiv, Nat.reduceMod, Nat.reduceEqDiff, Nat.reduceLeDiff, Nat.reduceLT, Int.reduceLT, Int.reduceLE, Int.reduceEq, Int.reduceToNat, reduceIte, reduceCtorEq])⟩
              omega
            · have hnew := pickN_no (p := fun c => decide (has f t c.key ∧ there c)) (n := n) (l := l) (i := i) hget (decide_eq_false fun h => h3 h.2)
              rw [hx] at hnew
              simp only [go_sem, Nat.reduceAdd, Nat.reduceSub, Nat.reduceMul, Nat.reduceDiv, Nat.reduceMod, Nat.reduceEqDiff, Nat.reduceLeDiff, Nat.reduceLT, Int.reduceLT, Int.reduceLE, Int.reduceEq, Int.reduceToNat, reduceIte, reduceCtorEq, List.length_nil, List.map_nil, List.length_cons, List.map_cons, List.replicate_succ, List.replicate_zero, List.set_cons_zero, List.take_succ_cons, List.take_zero, List.take_nil, List.length_append, List.map_append, List.cons_append, List.nil_append, List.drop_succ_cons, List.append_nil, List.length_map, hw, hgo, hrow, hci, hsi, List.getElem?_eq_getElem hlt, Cell.enc, hmx2, hfull, htk, hself, hmx]
              refine ⟨i + 1, by show l.length - (i + 1) < l.length - i; omega, ?_, _, [0, 1], rfl, Wk.mk' rfl (by decide) (by simp only [go_sem, hrho, List.length_map, Cell.map_rens, Cell.map_row, hnew, Cell.row, rowsL, List.length_nil, List.map_nil, List.length_cons, List.map_cons, List.replicate_succ, List.replicate_zero, List.set_cons_zero, List.take_succ_cons, List.take_zero, List.take_nil, List.length_append, List.map_append, List.cons_append, List.nil_append, List.drop_succ_cons, List.append_nil, Nat.reduceAdd, Nat.reduceSub, Nat.reduceMul, Nat.reduceDiv, Nat.reduceMod, Nat.reduceEqDiff, Nat.reduceLeDiff, Nat.reduceLT, Int.reduceLT, Int.reduceLE, Int.reduceEq, Int.reduceToNat, reduceIte, reduceCtorEq]) (by simp only [go_sem, hrho, List.length_map, Cell.map_rens, Cell.map_row, hnew, Cell.row, rowsL, List.length_nil, List.map_nil, List.length_cons, List.map_cons, List.replicate_succ, List.replicate_zero, List.set_cons_zero, List.take_succ_cons, List.take_zero, List.take_nil, List.length_append, List.map_append, List.cons_append, List.nil_append, List.drop_succ_cons, List.append_nil, Nat.reduceAdd, Nat.reduceSub, Nat.reduceMul, Nat.reduceDiv, Nat.reduceMod, Nat.reduceEqDiff, Nat.reduceLeDiff, Nat.reduceLT, Int.reduceLT, Int.reduceLE, Int.reduceEq, Int.reduceToNat, reduceIte, reduceCtorEq])⟩
              omega
          · have hnew := pickN_no (p := fun c => decide (has f t c.key ∧ there c)) (n := n) (l := l) (i := i) hget (decide_eq_false fun h => h1 h.1)
            rw [hx] at hnew
            simp only [go_sem, Nat.reduceAdd, Nat.reduceSub, Nat.reduceMul, Nat.reduceDiv, Nat.reduceMod, Nat.reduceEqDiff, Nat.reduceLeDiff, Nat.reduceLT, Int.reduceLT, Int.reduceLE, Int.reduceEq, Int.reduceToNat, reduceIte, reduceCtorEq, List.length_nil, List.map_nil, List.length_cons, List.map_cons, List.replicate_succ, List.replicate_zero, List.set_cons_zero, List.take_succ_cons, List.take_zero, List.take_nil, List.length_append, List.map_append, List.cons_append, List.nil_append, List.drop_succ_cons, List.append_nil, List.length_map, hw, hgo, hrow, hci, hsi, List.getElem?_eq_getElem hlt, Cell.enc, hmx2, hfull, htk, hself, hmx]
            refine ⟨i + 1, by show l.length - (i + 1) < l.length - i; omega, ?_, _, [0, 1], rfl, Wk.mk' rfl (by decide) (by simp only [go_sem, hrho, List.length_map, Cell.map_rens, Cell.map_row, hnew, Cell.row, rowsL, List.length_nil, List.map_nil, List.length_cons, List.map_cons, List.replicate_succ, List.replicate_zero, List.set_cons_zero, List.take_succ_cons, List.take_zero, List.take_nil, List.length_append, List.map_append, List.cons_append, List.nil_append, List.drop_succ_cons, List.append_nil, Nat.reduceAdd, Nat.reduceSub, Nat.reduceMul, Nat.reduceDiv, Nat.reduceMod, Nat.reduceEqDiff, Nat.reduceLeDiff, Nat.reduceLT, Int.reduceLT, Int.reduceLE, Int.reduceEq, Int.reduceToNat, reduceIte, reduceCtorEq]) (by simp only [go_sem, hrho, List.length_map, Cell.map_rens, Cell.map_row, hnew, Cell.row, rowsL, List.length_nil, List.map_nil, List.length_cons, List.map_cons, List.replicate_succ, List.replicate_zero, List.set_cons_zero, List.take_succ_cons, List.take_zero, List.take_nil, List.length_append, List.map_append, List.cons_append, List.nil_append, List.drop_succ_cons, List.append_nil, Nat.reduceAdd, Nat.reduceSub, Nat.reduceMul, Nat.reduceDiv, Nat.reduceMod, Nat.reduceEqDiff, Nat.reduceLeDiff, Nat.reduceLT, Int.reduceLT, Int.reduceLE, Int.reduceEq, Int.reduceToNat, reduceIte, reduceCtorEq])⟩
            omega
        · have hnew := pickN_full (p := fun c => decide (has f t c.key ∧ there c)) (n := n) (l := l) (i := i) (by rw [hx]; simp only [List.length_cons, List.length_nil]; omega) l.length (by omega)
          rw [hx, take_all (Nat.le_refl _)] at hnew
          rw [show rowsL f t n l = _ from hnew]
          exact ⟨_, 1, rfl, rfl, rfl⟩

    · have hci : ¬ (i : Int) < (l.length : Int) := by omega
      simp only [go_sem, C16L0, Nat.reduceAdd, Nat.reduceSub, Nat.reduceMul, Nat.reduceDiv, Nat.reduceMod, Nat.reduceEqDiff, Nat.reduceLeDiff, Nat.reduceLT, Int.reduceLT, Int.reduceLE, Int.reduceEq, Int.reduceToNat, reduceIte, reduceCtorEq, List.length_map, hci]
      rw [take_all (by omega)]
      exact ⟨_, 1, rfl, rfl, rfl⟩

end Go.Proofs
/- Clone and Insert at an empty slice. -/

set_option linter.all false
namespace Go.Ev
variable {P : Program} {H : Heap}
theorem clone_zero {f : FuncId} {esz bytes : Nat} {zero : List AV} (hf : CloFn P f esz bytes zero) {k : K} {off : Nat} {ex : Bool} {cap : Nat} :
    FnOk P f [.slice k off 0 esz ex cap] H fun v G => v = .slice H.nx 0 0 esz true 0 ∧ G = H.ext [.row true esz []] := by
  obtain ⟨fn, h1, h2, h3⟩ := hf.fn
  have hpos := hf.pos
  refine FnOk.of_WW h1 rfl h2 h3 E0 good_E0 ?_
  simp only [go_sem, cloCC, List.replicate_zero, Heap.key_zero, Nat.reduceAdd, Nat.reduceSub, Nat.reduceMul, Nat.reduceDiv, Nat.reduceMod, Nat.reduceEqDiff, Nat.reduceLeDiff, Nat.reduceLT, Int.reduceLT, Int.reduceLE, Int.reduceEq, reduceIte, reduceCtorEq]
theorem insert_zero {f : FuncId} {esz bytes : Nat} {zero : List AV} (hf : InsFn P f esz bytes zero) {kv k : K} {wr : Bool} {x : List AV} (hv : H.get kv = some (.row wr esz [x])) (hg : H.get k = some (.row true esz [])) (hb : 194 * bytes ≤ 281474976710656) :
    FnOk P f [.slice k 0 0 esz true 0, .int .i64 0, .slice kv 0 1 esz true 1] H fun v G => v = .slice H.nx 0 1 esz false 1 ∧ G = H.ext [.row true esz [x]] := by
  obtain ⟨fn, ov, rr, h1, h2, h3, h4, h5⟩ := hf.fn
  have hpos := hf.pos
  refine FnOk.assume fun hok => ?_
  have hgk := Heap.get_ext_old hok hg
  have hgv := Heap.get_ext_old hok hv
  refine FnOk.of_WW h1 rfl h2 h3 E0 good_E0 ?_
  simp only [go_sem, insCC, hgk, hgv, hb, Nat.zero_mod, Nat.zero_div, Nat.zero_le, Nat.reduceAdd, Nat.reduceSub, Nat.reduceMul, Nat.reduceDiv, Nat.reduceMod, Nat.reduceEqDiff, Nat.reduceLeDiff, Nat.reduceLT, Int.reduceLT, Int.reduceLE, Int.reduceEq, Int.reduceToNat, reduceIte, reduceCtorEq, Heap.key_zero]
end Go.Ev
/- index: a cell put in its place, walked. -/


set_option linter.all false
set_option maxRecDepth 100000
namespace Go.Proofs
open Go Go.Ev
variable {H : Heap}

theorem clo50 : CloFn Try.prog 50 5 56 [.str [], .str [], .int .i64 0, .bool false, .int .i64 0] := ⟨⟨Try.f50, Try.func50, by kernel_rfl, by kernel_rfl⟩, rfl, by decide⟩
theorem ins51 : InsFn Try.prog 51 5 56 [.str [], .str [], .int .i64 0, .bool false, .int .i64 0] := ⟨⟨Try.f51, 66, 67, Try.func51, by kernel_rfl, by kernel_rfl, by kernel_rfl, by kernel_rfl⟩, rfl, by decide⟩
/-- the cell c put among the cells l -/
noncomputable def withL (l : List Cell) (c : Cell) : List Cell :=
  match l with
  | [] => [c]
  | d :: l => if ltS d.key c.key then d :: withL l c else if d.key = c.key then c :: l else c :: d :: l
theorem withL_at : ∀ (l : List Cell) (c : Cell) (i : Nat), (∀ j d, j < i → l[j]? = some d → ltS d.key c.key) → i ≤ l.length →
    (∀ d, l[i]? = some d → ¬ ltS d.key c.key) → withL l c = l.take i ++ c :: (match l[i]? with | none => [] | some d => if d.key = c.key then l.drop (i + 1) else l.drop i)
  | [], c, i, _, hi, _ => by
    obtain rfl : i = 0 := by simpa using hi
    rfl
  | d :: l, c, 0, _, _, h => by
    have := h d rfl
    simp [withL, this]
    split <;> rfl
  | d :: l, c, i + 1, h, hi, h2 => by
    have h1 := h 0 d (by omega) rfl
    have ih := withL_at l c i (fun j e hj he => h (j + 1) e (by omega) (by simpa using he)) (by simpa using hi) (fun e he => h2 e (by simpa using he))
    simp only [withL, h1, if_true, ih, List.take_succ_cons, List.cons_append, List.getElem?_cons_succ, List.drop_succ_cons]

noncomputable def withC (l : List Cell) (c : Cell) : List Cell := if cellIs c then withL l c else l
/-- a slice handed back that is nil only where the given one is -/
def frV (v : AV) (k : K) (esz n : Nat) : AV := match v with | .nils => outV k esz n | _ => .slice k 0 n esz false n
def frL (v : AV) (esz : Nat) (xs : List (List AV)) : List Blk := match v with | .nils => outL esz xs | _ => [.row true esz xs]

theorem f22_nil {c : Cell} : FnOk Try.prog 22 [.nils, .agg c.enc] H fun r G => r = frV (.nils) H.nx 5 (withC [] c).length ∧ G = H.ext (frL (.nils) 5 ((withC [] c).map Cell.enc)) := by
  refine FnOk.assume fun hok => ?_
  by_cases hc : cellIs c
  · rw [withC, if_pos hc]
    refine FnOk.drop1 (esz := 5) (n := 1) (ex := false) (cap := 1) (b := .row true 5 [c.enc]) ?_ (fun ρ => by simp only [Blk.ren, List.map_cons, List.map_nil, Cell.rens])
    refine FnOk.of_WW Try.func22 rfl C22ok R22ok E0 good_E0 ?_
    simp only [go_sem, C22, Nat.reduceAdd, Nat.reduceSub, Nat.reduceMul, Nat.reduceDiv, Nat.reduceMod, Nat.reduceEqDiff, Nat.reduceLeDiff, Nat.reduceLT, Int.reduceLT, Int.reduceLE, Int.reduceEq, Int.reduceToNat, reduceIte, reduceCtorEq, Cell.enc]
    refine CL.of (clone_nil clo50) ?_
    rintro _ _ ⟨rfl, rfl⟩
    simp only [go_sem, Nat.reduceAdd, Nat.reduceSub, Nat.reduceMul, Nat.reduceDiv, Nat.reduceMod, Nat.reduceEqDiff, Nat.reduceLeDiff, Nat.reduceLT, Int.reduceLT, Int.reduceLE, Int.reduceEq, Int.reduceToNat, reduceIte, reduceCtorEq, List.length_nil, List.map_nil, List.length_cons, List.map_cons, List.replicate_succ, List.replicate_zero, List.set_cons_zero, List.take_succ_cons, List.take_zero, List.take_nil, List.length_append, List.map_append, List.cons_append, List.nil_append, List.drop_succ_cons, List.append_nil, Cell.enc]
    refine CL.bool (f48_ok c) (fun h1 => ?_) (fun h1 => absurd hc h1)
    simp only [go_sem, Nat.reduceAdd, Nat.reduceSub, Nat.reduceMul, Nat.reduceDiv, Nat.reduceMod, Nat.reduceEqDiff, Nat.reduceLeDiff, Nat.reduceLT, Int.reduceLT, Int.reduceLE, Int.reduceEq, Int.reduceToNat, reduceIte, reduceCtorEq, List.length_nil, List.map_nil, List.length_cons, List.map_cons, List.replicate_succ, List.replicate_zero, List.set_cons_zero, List.take_succ_cons, List.take_zero, List.take_nil, List.length_append, List.map_append, List.cons_append, List.nil_append, List.drop_succ_cons, List.append_nil]
    refine LL.st good_E0 (fun i : Nat => 0) (fun i => True)
      (fun i => [((.o (.o .z)), .ptr (H.key 0) 0), ((.o (.i .z)), .nils), ((.i (.i .z)), .int .i64 0)])
      (fun i => [.row true 5 [c.enc]]) ?_ 0 (σ := [0]) (Wk.mk' rfl (by decide) (by simp only [go_sem, List.map_nil, Cell.enc, Nat.reduceAdd, Nat.reduceSub, Nat.reduceMul, Nat.reduceDiv, Nat.reduceMod, Nat.reduceEqDiff, Nat.reduceLeDiff, Nat.reduceLT, Int.reduceLT, Int.reduceLE, Int.reduceEq, Int.reduceToNat, reduceIte, reduceCtorEq]) (by simp only [go_sem, List.map_nil, Cell.enc, Nat.reduceAdd, Nat.reduceSub, Nat.reduceMul, Nat.reduceDiv, Nat.reduceMod, Nat.reduceEqDiff, Nat.reduceLeDiff, Nat.reduceLT, Int.reduceLT, Int.reduceLE, Int.reduceEq, Int.reduceToNat, reduceIte, reduceCtorEq])) trivial
    rintro i -
    simp only [go_sem, C22L0, Nat.reduceAdd, Nat.reduceSub, Nat.reduceMul, Nat.reduceDiv, Nat.reduceMod, Nat.reduceEqDiff, Nat.reduceLeDiff, Nat.reduceLT, Int.reduceLT, Int.reduceLE, Int.reduceEq, Int.reduceToNat, reduceIte, reduceCtorEq, Cell.enc, List.length_nil, List.map_nil, List.length_cons, List.map_cons, List.replicate_succ, List.replicate_zero, List.set_cons_zero, List.take_succ_cons, List.take_zero, List.take_nil, List.length_append, List.map_append, List.cons_append, List.nil_append, List.drop_succ_cons, List.append_nil]
    refine CL.of (insert_nil ins51 (x := c.enc) (wr := true) (by rw [Heap.get_ext_key _ _ _ (by simp)]; rfl) (by decide)) ?_
    rintro _ _ ⟨rfl, rfl⟩
    simp only [go_sem, Nat.reduceAdd, Nat.reduceSub, Nat.reduceMul, Nat.reduceDiv, Nat.reduceMod, Nat.reduceEqDiff, Nat.reduceLeDiff, Nat.reduceLT, Int.reduceLT, Int.reduceLE, Int.reduceEq, Int.reduceToNat, reduceIte, reduceCtorEq, List.length_nil, List.map_nil, List.length_cons, List.map_cons, List.replicate_succ, List.replicate_zero, List.set_cons_zero, List.take_succ_cons, List.take_zero, List.take_nil, List.length_append, List.map_append, List.cons_append, List.nil_append, List.drop_succ_cons, List.append_nil]
    exact ⟨_, 2, rfl, rfl, rfl⟩
  · rw [withC, if_neg hc]
    refine (FnOk.drop (R := fun r => r = .nils) ?_ (by rintro v rfl ρ; rw [AV.ren])).mono (by rintro v G ⟨rfl, rfl⟩; exact ⟨rfl, (Heap.ext_nil _).symm⟩)
    refine FnOk.of_WW Try.func22 rfl C22ok R22ok E0 good_E0 ?_
    simp only [go_sem, C22, Nat.reduceAdd, Nat.reduceSub, Nat.reduceMul, Nat.reduceDiv, Nat.reduceMod, Nat.reduceEqDiff, Nat.reduceLeDiff, Nat.reduceLT, Int.reduceLT, Int.reduceLE, Int.reduceEq, Int.reduceToNat, reduceIte, reduceCtorEq, Cell.enc]
    refine CL.of (clone_nil clo50) ?_
    rintro _ _ ⟨rfl, rfl⟩
    simp only [go_sem, Nat.reduceAdd, Nat.reduceSub, Nat.reduceMul, Nat.reduceDiv, Nat.reduceMod, Nat.reduceEqDiff, Nat.reduceLeDiff, Nat.reduceLT, Int.reduceLT, Int.reduceLE, Int.reduceEq, Int.reduceToNat, reduceIte, reduceCtorEq, List.length_nil, List.map_nil, List.length_cons, List.map_cons, List.replicate_succ, List.replicate_zero, List.set_cons_zero, List.take_succ_cons, List.take_zero, List.take_nil, List.length_append, List.map_append, List.cons_append, List.nil_append, List.drop_succ_cons, List.append_nil, Cell.enc]
    refine CL.bool (f48_ok c) (fun h1 => absurd h1 hc) (fun h1 => ?_)
    simp only [go_sem, Nat.reduceAdd, Nat.reduceSub, Nat.reduceMul, Nat.reduceDiv, Nat.reduceMod, Nat.reduceEqDiff, Nat.reduceLeDiff, Nat.reduceLT, Int.reduceLT, Int.reduceLE, Int.reduceEq, Int.reduceToNat, reduceIte, reduceCtorEq, List.length_nil, List.map_nil, List.length_cons, List.map_cons, List.replicate_succ, List.replicate_zero, List.set_cons_zero, List.take_succ_cons, List.take_zero, List.take_nil, List.length_append, List.map_append, List.cons_append, List.nil_append, List.drop_succ_cons, List.append_nil]
    exact ⟨_, rfl⟩

theorem f22_zero {c : Cell} {k : K} {off : Nat} {ex : Bool} {cap : Nat} : FnOk Try.prog 22 [.slice k off 0 5 ex cap, .agg c.enc] H fun r G => r = frV (.slice k off 0 5 ex cap) H.nx 5 (withC [] c).length ∧ G = H.ext (frL (.slice k off 0 5 ex cap) 5 ((withC [] c).map Cell.enc)) := by
  refine FnOk.assume fun hok => ?_
  by_cases hc : cellIs c
  · rw [withC, if_pos hc]
    refine FnOk.drop1 (esz := 5) (n := 1) (ex := false) (cap := 1) (b := .row true 5 [c.enc]) ?_ (fun ρ => by simp only [Blk.ren, List.map_cons, List.map_nil, Cell.rens])
    refine FnOk.of_WW Try.func22 rfl C22ok R22ok E0 good_E0 ?_
    simp only [go_sem, C22, Nat.reduceAdd, Nat.reduceSub, Nat.reduceMul, Nat.reduceDiv, Nat.reduceMod, Nat.reduceEqDiff, Nat.reduceLeDiff, Nat.reduceLT, Int.reduceLT, Int.reduceLE, Int.reduceEq, Int.reduceToNat, reduceIte, reduceCtorEq, Cell.enc]
    refine CL.of (clone_zero clo50) ?_
    rintro _ _ ⟨rfl, rfl⟩
    simp only [go_sem, Nat.reduceAdd, Nat.reduceSub, Nat.reduceMul, Nat.reduceDiv, Nat.reduceMod, Nat.reduceEqDiff, Nat.reduceLeDiff, Nat.reduceLT, Int.reduceLT, Int.reduceLE, Int.reduceEq, Int.reduceToNat, reduceIte, reduceCtorEq, List.length_nil, List.map_nil, List.length_cons, List.map_cons, List.replicate_succ, List.replicate_zero, List.set_cons_zero, List.take_succ_cons, List.take_zero, List.take_nil, List.length_append, List.map_append, List.cons_append, List.nil_append, List.drop_succ_cons, List.append_nil, Cell.enc]
    refine CL.bool (f48_ok c) (fun h1 => ?_) (fun h1 => absurd hc h1)
    simp only [go_sem, Nat.reduceAdd, Nat.reduceSub, Nat.reduceMul, Nat.reduceDiv, Nat.reduceMod, Nat.reduceEqDiff, Nat.reduceLeDiff, Nat.reduceLT, Int.reduceLT, Int.reduceLE, Int.reduceEq, Int.reduceToNat, reduceIte, reduceCtorEq, List.length_nil, List.map_nil, List.length_cons, List.map_cons, List.replicate_succ, List.replicate_zero, List.set_cons_zero, List.take_succ_cons, List.take_zero, List.take_nil, List.length_append, List.map_append, List.cons_append, List.nil_append, List.drop_succ_cons, List.append_nil]
    refine LL.st good_E0 (fun i : Nat => 0) (fun i => True)
      (fun i => [((.o (.o .z)), .ptr (H.key 0) 0), ((.o (.i .z)), .slice (H.key 1) 0 0 5 true 0), ((.i (.i .z)), .int .i64 0)])
      (fun i => [.row true 5 [c.enc], .row true 5 []]) ?_ 0 (σ := [0, 1]) (Wk.mk' rfl (by decide) (by simp only [go_sem, List.map_nil, Cell.enc, Nat.reduceAdd, Nat.reduceSub, Nat.reduceMul, Nat.reduceDiv, Nat.reduceMod, Nat.reduceEqDiff, Nat.reduceLeDiff, Nat.reduceLT, Int.reduceLT, Int.reduceLE, Int.reduceEq, Int.reduceToNat, reduceIte, reduceCtorEq]) (by simp only [go_sem, List.map_nil, Cell.enc, Nat.reduceAdd, Nat.reduceSub, Nat.reduceMul, Nat.reduceDiv, Nat.reduceMod, Nat.reduceEqDiff, Nat.reduceLeDiff, Nat.reduceLT, Int.reduceLT, Int.reduceLE, Int.reduceEq, Int.reduceToNat, reduceIte, reduceCtorEq])) trivial
    rintro i -
    simp only [go_sem, C22L0, Nat.reduceAdd, Nat.reduceSub, Nat.reduceMul, Nat.reduceDiv, Nat.reduceMod, Nat.reduceEqDiff, Nat.reduceLeDiff, Nat.reduceLT, Int.reduceLT, Int.reduceLE, Int.reduceEq, Int.reduceToNat, reduceIte, reduceCtorEq, Cell.enc, List.length_nil, List.map_nil, List.length_cons, List.map_cons, List.replicate_succ, List.replicate_zero, List.set_cons_zero, List.take_succ_cons, List.take_zero, List.take_nil, List.length_append, List.map_append, List.cons_append, List.nil_append, List.drop_succ_cons, List.append_nil]
    refine CL.of (insert_zero ins51 (x := c.enc) (wr := true) (by rw [Heap.get_ext_key _ _ _ (by simp)]; rfl) (by rw [Heap.get_ext_key _ _ _ (by simp)]; rfl) (by decide)) ?_
    rintro _ _ ⟨rfl, rfl⟩
    simp only [go_sem, Nat.reduceAdd, Nat.reduceSub, Nat.reduceMul, Nat.reduceDiv, Nat.reduceMod, Nat.reduceEqDiff, Nat.reduceLeDiff, Nat.reduceLT, Int.reduceLT, Int.reduceLE, Int.reduceEq, Int.reduceToNat, reduceIte, reduceCtorEq, List.length_nil, List.map_nil, List.length_cons, List.map_cons, List.replicate_succ, List.replicate_zero, List.set_cons_zero, List.take_succ_cons, List.take_zero, List.take_nil, List.length_append, List.map_append, List.cons_append, List.nil_append, List.drop_succ_cons, List.append_nil]
    exact ⟨_, 3, rfl, rfl, rfl⟩
  · rw [withC, if_neg hc]
    refine FnOk.loose (FnOk.drop1 (esz := 5) (n := 0) (ex := true) (cap := 0) (b := .row true 5 []) ?_ (fun ρ => rfl))
    refine FnOk.of_WW Try.func22 rfl C22ok R22ok E0 good_E0 ?_
    simp only [go_sem, C22, Nat.reduceAdd, Nat.reduceSub, Nat.reduceMul, Nat.reduceDiv, Nat.reduceMod, Nat.reduceEqDiff, Nat.reduceLeDiff, Nat.reduceLT, Int.reduceLT, Int.reduceLE, Int.reduceEq, Int.reduceToNat, reduceIte, reduceCtorEq, Cell.enc]
    refine CL.of (clone_zero clo50) ?_
    rintro _ _ ⟨rfl, rfl⟩
    simp only [go_sem, Nat.reduceAdd, Nat.reduceSub, Nat.reduceMul, Nat.reduceDiv, Nat.reduceMod, Nat.reduceEqDiff, Nat.reduceLeDiff, Nat.reduceLT, Int.reduceLT, Int.reduceLE, Int.reduceEq, Int.reduceToNat, reduceIte, reduceCtorEq, List.length_nil, List.map_nil, List.length_cons, List.map_cons, List.replicate_succ, List.replicate_zero, List.set_cons_zero, List.take_succ_cons, List.take_zero, List.take_nil, List.length_append, List.map_append, List.cons_append, List.nil_append, List.drop_succ_cons, List.append_nil, Cell.enc]
    refine CL.bool (f48_ok c) (fun h1 => absurd h1 hc) (fun h1 => ?_)
    simp only [go_sem, Nat.reduceAdd, Nat.reduceSub, Nat.reduceMul, Nat.reduceDiv, Nat.reduceMod, Nat.reduceEqDiff, Nat.reduceLeDiff, Nat.reduceLT, Int.reduceLT, Int.reduceLE, Int.reduceEq, Int.reduceToNat, reduceIte, reduceCtorEq, List.length_nil, List.map_nil, List.length_cons, List.map_cons, List.replicate_succ, List.replicate_zero, List.set_cons_zero, List.take_succ_cons, List.take_zero, List.take_nil, List.length_append, List.map_append, List.cons_append, List.nil_append, List.drop_succ_cons, List.append_nil]
    exact ⟨_, 1, rfl, rfl, rfl⟩

theorem f22_arr {c : Cell} {l : List Cell} {k : K} {off : Nat} {ex : Bool} {cap : Nat} (hA : Arr H 5 (.slice k off (l.map Cell.enc).length 5 ex cap) (l.map Cell.enc)) (h0 : 0 < l.length) (hl : l.length < 4294967295) :
    FnOk Try.prog 22 [.slice k off (l.map Cell.enc).length 5 ex cap, .agg c.enc] H fun r G => r = .slice H.nx 0 (withC l c).length 5 false (withC l c).length ∧ G = H.ext [.row true 5 ((withC l c).map Cell.enc)] := by
  refine FnOk.assume fun hok => ?_
  have hmb : (2 * (l.map Cell.enc).length + 192) * 56 ≤ 281474976710656 := by rw [List.length_map]; omega
  have hclo := clone_any clo50 (hA.ext [.row true 5 [c.enc]]) hmb (Cell.map_rens · l)
  refine FnOk.drop1 (esz := 5) (n := (withC l c).length) (ex := false) (cap := (withC l c).length) (b := .row true 5 ((withC l c).map Cell.enc)) ?_ (fun ρ => by rw [Blk.ren, Cell.map_rens])
  refine FnOk.of_WW Try.func22 rfl C22ok R22ok E0 good_E0 ?_
  simp only [go_sem, C22, Nat.reduceAdd, Nat.reduceSub, Nat.reduceMul, Nat.reduceDiv, Nat.reduceMod, Nat.reduceEqDiff, Nat.reduceLeDiff, Nat.reduceLT, Int.reduceLT, Int.reduceLE, Int.reduceEq, Int.reduceToNat, reduceIte, reduceCtorEq, Cell.enc]
  simp only [Cell.enc, List.length_map] at hclo
  refine CL.of hclo ?_
  rintro v G (⟨rfl, hn, rfl⟩ | ⟨rfl, rfl⟩)
  · exact absurd (congrArg List.length hn) (by rw [List.length_map, List.length_nil]; omega)
  have hins : ∀ i ≤ l.length, _ := fun i (hi : i ≤ l.length) => insert_own (H := H.ext [.row true 5 [c.enc], .row true 5 (l.map Cell.enc), .row true 5 [c.enc]]) ins51 (kv := H.key 2) (k := H.key 1) (x := c.enc) (i := i) (rows := l.map Cell.enc) (fun e => absurd (congrArg K.toNat e) (by rw [Heap.toNat_key, Heap.toNat_key]; omega)) (by rw [Heap.get_ext_key _ _ _ (by simp)]; rfl) (by rw [Heap.get_ext_key _ _ _ (by simp)]; rfl) (by rw [List.length_map]; omega) (by rw [List.length_map]; omega) (by rw [List.length_map]; omega) (by rw [List.length_map]; omega)
  simp only [Cell.enc, List.length_map] at hins
  simp only [go_sem, Nat.reduceAdd, Nat.reduceSub, Nat.reduceMul, Nat.reduceDiv, Nat.reduceMod, Nat.reduceEqDiff, Nat.reduceLeDiff, Nat.reduceLT, Int.reduceLT, Int.reduceLE, Int.reduceEq, Int.reduceToNat, reduceIte, reduceCtorEq, List.length_nil, List.map_nil, List.length_cons, List.map_cons, List.replicate_succ, List.replicate_zero, List.set_cons_zero, List.take_succ_cons, List.take_zero, List.take_nil, List.length_append, List.map_append, List.cons_append, List.nil_append, List.drop_succ_cons, List.append_nil, List.length_map]
  refine CL.bool (f48_ok c) (fun h1 => ?_) (fun h1 => ?_)
  · simp only [go_sem, Nat.reduceAdd, Nat.reduceSub, Nat.reduceMul, Nat.reduceDiv, Nat.reduceMod, Nat.reduceEqDiff, Nat.reduceLeDiff, Nat.reduceLT, Int.reduceLT, Int.reduceLE, Int.reduceEq, Int.reduceToNat, reduceIte, reduceCtorEq, List.length_nil, List.map_nil, List.length_cons, List.map_cons, List.replicate_succ, List.replicate_zero, List.set_cons_zero, List.take_succ_cons, List.take_zero, List.take_nil, List.length_append, List.map_append, List.cons_append, List.nil_append, List.drop_succ_cons, List.append_nil]
    rw [withC, if_pos h1]
    refine LL.st good_E0 (fun i : Nat => l.length - i) (fun i => i ≤ l.length ∧ ∀ j d, j < i → l[j]? = some d → ltS d.key c.key)
      (fun i => [((.o (.o .z)), .ptr (H.key 0) 0), ((.o (.i .z)), .slice (H.key 1) 0 l.length 5 false l.length), ((.i (.i .z)), .int .i64 i)])
      (fun i => [.row true 5 [c.enc], .row true 5 (l.map Cell.enc)]) ?_ 0 (σ := [0, 1]) (Wk.mk' rfl (by decide) (by simp only [go_sem, List.map_nil, List.map_cons, Cell.enc, Cell.map_rens, Nat.reduceAdd, Nat.reduceSub, Nat.reduceMul, Nat.reduceDiv, Nat.reduceMod, Nat.reduceEqDiff, Nat.reduceLeDiff, Nat.reduceLT, Int.reduceLT, Int.reduceLE, Int.reduceEq, Int.reduceToNat, reduceIte, reduceCtorEq]) (by simp only [go_sem, List.map_nil, List.map_cons, Cell.enc, Cell.map_rens, Nat.reduceAdd, Nat.reduceSub, Nat.reduceMul, Nat.reduceDiv, Nat.reduceMod, Nat.reduceEqDiff, Nat.reduceLeDiff, Nat.reduceLT, Int.reduceLT, Int.reduceLE, Int.reduceEq, Int.reduceToNat, reduceIte, reduceCtorEq])) ⟨by omega, by intro j d h; omega⟩
    rintro i ⟨hi, hno⟩
    have hins := hins i hi
    by_cases hlt : i < l.length
    · have hw := wrap_succ (n := i) (by omega)
      have hci : (i : Int) < (l.length : Int) := by omega
      have hsi : i + 1 ≤ l.length := by omega
      have hget : l[i]? = some l[i] := List.getElem?_eq_getElem hlt
      have hmi : (l.map Cell.enc)[i]? = some l[i].enc := by rw [List.getElem?_map, hget]; rfl
      simp only [go_sem, C22L0, Nat.reduceAdd, Nat.reduceSub, Nat.reduceMul, Nat.reduceDiv, Nat.reduceMod, Nat.reduceEqDiff, Nat.reduceLeDiff, Nat.reduceLT, Int.reduceLT, Int.reduceLE, Int.reduceEq, Int.reduceToNat, reduceIte, reduceCtorEq, List.length_nil, List.map_nil, List.length_cons, List.map_cons, List.replicate_succ, List.replicate_zero, List.set_cons_zero, List.take_succ_cons, List.take_zero, List.take_nil, List.length_append, List.map_append, List.cons_append, List.nil_append, List.drop_succ_cons, List.append_nil, hw, hci, hsi, hmi, hget, Cell.enc]
      refine ⟨fun h2 => ?_, fun h2 => ?_⟩
      · refine ⟨i + 1, by show l.length - (i + 1) < l.length - i; omega, ⟨by omega, ?_⟩, _, [0, 1], rfl, Wk.mk' rfl (by decide) (by simp only [go_sem, List.length_map, Cell.map_rens, List.length_nil, List.map_nil, List.length_cons, List.map_cons, List.replicate_succ, List.replicate_zero, List.set_cons_zero, List.take_succ_cons, List.take_zero, List.take_nil, List.length_append, List.map_append, List.cons_append, List.nil_append, List.drop_succ_cons, List.append_nil, Nat.reduceAdd, Nat.reduceSub, Nat.reduceMul, Nat.reduceDiv, Nat.reduceMod, Nat.reduceEqDiff, Nat.reduceLeDiff, Nat.reduceLT, Int.reduceLT, Int.reduceLE, Int.reduceEq, Int.reduceToNat, reduceIte, reduceCtorEq]) (by simp only [go_sem, List.length_map, Cell.map_rens, List.length_nil, List.map_nil, List.length_cons, List.map_cons, List.replicate_succ, List.replicate_zero, List.set_cons_zero, List.take_succ_cons, List.take_zero, List.take_nil, List.length_append, List.map_append, List.cons_append, List.nil_append, List.drop_succ_cons, List.append_nil, Nat.reduceAdd, Nat.reduceSub, Nat.reduceMul, Nat.reduceDiv, Nat.reduceMod, Nat.reduceEqDiff, Nat.reduceLeDiff, Nat.reduceLT, Int.reduceLT, Int.reduceLE, Int.reduceEq, Int.reduceToNat, reduceIte, reduceCtorEq])⟩
        intro j d hj hd
        rcases Nat.lt_or_ge j i with g | g
        · exact hno j d g hd
        · obtain rfl : j = i := by omega
          rw [hget] at hd; cases hd; exact h2
      · have hwl := withL_at l c i hno hi (fun d hd => by rw [hget] at hd; cases hd; exact h2)
        rw [hget] at hwl
        refine ⟨fun h3 => ?_, fun h3 => ?_⟩
        · rw [hwl]
          simp only [h3, if_true]
          have hlen : (List.take i l ++ c :: List.drop (i + 1) l).length = l.length := by rw [List.length_append, List.length_take, List.length_cons, List.length_drop]; omega
          rw [hlen]
          refine ⟨_, 1, rfl, rfl, ?_⟩
          rw [List.map_append, List.map_cons, List.map_take, List.map_drop]
          rw [show [AV.str c.key, AV.str c.value, AV.int .i64 c.ver, AV.bool c.del, AV.int .i64 c.floor] = c.enc from rfl, List.set_eq_take_append_cons_drop, if_pos (by rw [List.length_map]; exact hlt)]
          rfl
        · refine CL.of hins ?_
          rintro _ _ ⟨rfl, rfl⟩
          simp only [go_sem, Nat.reduceAdd, Nat.reduceSub, Nat.reduceMul, Nat.reduceDiv, Nat.reduceMod, Nat.reduceEqDiff, Nat.reduceLeDiff, Nat.reduceLT, Int.reduceLT, Int.reduceLE, Int.reduceEq, Int.reduceToNat, reduceIte, reduceCtorEq, List.length_nil, List.map_nil, List.length_cons, List.map_cons, List.replicate_succ, List.replicate_zero, List.set_cons_zero, List.take_succ_cons, List.take_zero, List.take_nil, List.length_append, List.map_append, List.cons_append, List.nil_append, List.drop_succ_cons, List.append_nil, List.length_map]
          rw [hwl]
          simp only [h3, if_false]
          have hlen : (List.take i l ++ c :: List.drop i l).length = l.length + 1 := by rw [List.length_append, List.length_take, List.length_cons, List.length_drop]; omega
          rw [hlen, Heap.set_ext_key _ _ _ _ (by simp), Heap.ext_append]
          refine ⟨_, 3, rfl, rfl, ?_⟩
          rw [List.map_append, List.map_cons]
          first | rw [List.map_take, List.map_drop] | rw [List.map_take, List.map_nil]
          rfl
    · have hci : ¬ (i : Int) < (l.length : Int) := by omega
      have hin : i = l.length := by omega
      have hnone : l[i]? = none := List.getElem?_eq_none (by omega)
      have hwl := withL_at l c i hno hi (fun d hd => by rw [hnone] at hd; cases hd)
      rw [hnone] at hwl
      simp only [go_sem, C22L0, Nat.reduceAdd, Nat.reduceSub, Nat.reduceMul, Nat.reduceDiv, Nat.reduceMod, Nat.reduceEqDiff, Nat.reduceLeDiff, Nat.reduceLT, Int.reduceLT, Int.reduceLE, Int.reduceEq, Int.reduceToNat, reduceIte, reduceCtorEq, List.length_map, hci, Cell.enc, List.length_nil, List.map_nil, List.length_cons, List.map_cons, List.replicate_succ, List.replicate_zero, List.set_cons_zero, List.take_succ_cons, List.take_zero, List.take_nil, List.length_append, List.map_append, List.cons_append, List.nil_append, List.drop_succ_cons, List.append_nil]
      refine CL.of hins ?_
      rintro _ _ ⟨rfl, rfl⟩
      simp only [go_sem, Nat.reduceAdd, Nat.reduceSub, Nat.reduceMul, Nat.reduceDiv, Nat.reduceMod, Nat.reduceEqDiff, Nat.reduceLeDiff, Nat.reduceLT, Int.reduceLT, Int.reduceLE, Int.reduceEq, Int.reduceToNat, reduceIte, reduceCtorEq, List.length_nil, List.map_nil, List.length_cons, List.map_cons, List.replicate_succ, List.replicate_zero, List.set_cons_zero, List.take_succ_cons, List.take_zero, List.take_nil, List.length_append, List.map_append, List.cons_append, List.nil_append, List.drop_succ_cons, List.append_nil, List.length_map]
      rw [hwl]
      have hlen : (List.take i l ++ [c]).length = l.length + 1 := by rw [List.length_append, List.length_take, List.length_cons, List.length_nil]; omega
      have hdr : List.drop i (l.map Cell.enc) = [] := List.drop_of_length_le (by rw [List.length_map]; omega)
      simp only [hdr]
      rw [hlen, Heap.set_ext_key _ _ _ _ (by simp), Heap.ext_append]
      refine ⟨_, 3, rfl, rfl, ?_⟩
      rw [List.map_append, List.map_cons]
      first | rw [List.map_take, List.map_drop] | rw [List.map_take, List.map_nil]
      rfl
  · simp only [go_sem, Nat.reduceAdd, Nat.reduceSub, Nat.reduceMul, Nat.reduceDiv, Nat.reduceMod, Nat.reduceEqDiff, Nat.reduceLeDiff, Nat.reduceLT, Int.reduceLT, Int.reduceLE, Int.reduceEq, Int.reduceToNat, reduceIte, reduceCtorEq, List.length_nil, List.map_nil, List.length_cons, List.map_cons, List.replicate_succ, List.replicate_zero, List.set_cons_zero, List.take_succ_cons, List.take_zero, List.take_nil, List.length_append, List.map_append, List.cons_append, List.nil_append, List.drop_succ_cons, List.append_nil]
    rw [withC, if_neg h1]
    exact ⟨_, 1, rfl, rfl, rfl⟩

end Go.Proofs
