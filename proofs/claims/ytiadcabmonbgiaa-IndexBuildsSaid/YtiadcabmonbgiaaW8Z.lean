/- index: the rows of a span, walked. -/
import Derived.Test.YtiadcabmonbgiaaW7Z
set_option linter.all false
set_option maxRecDepth 100000
namespace Go.Proofs
open Go Go.Ev
variable {H : Heap}

theorem mx40 {n : Nat} (h : n < 4294967296) : (2 * (n + 1 + 1) + 192) * 40 ≤ 281474976710656 := by omega
def there (c : Cell) : Prop := 0 < c.ver ∧ c.del = false
instance (c : Cell) : Decidable (there c) := inferInstanceAs (Decidable (_ ∧ _))
def Cell.row (c : Cell) : List AV := [.str c.key, .str c.value, .int .i64 c.ver]
theorem Cell.map_row (ρ : K → K) (l : List Cell) : (l.map Cell.row).map (AV.rens ρ) = l.map Cell.row := by
  rw [List.map_map]; exact List.map_congr_left fun c _ => by simp only [Function.comp, Cell.row, AV.rens, AV.ren]
noncomputable def rowsL (f t : List Nat) (n : Int) (l : List Cell) : List Cell := (l.filter fun c => decide (has f t c.key ∧ there c)).take n.toNat
def liveN (n : Int) (l : List Cell) : List Cell := (l.filter fun c => decide (there c)).take n.toNat
theorem liveN_within (f t : List Nat) (n : Int) (l : List Cell) : liveN n (withinL f t l) = rowsL f t n l := by
  unfold liveN rowsL withinL
  rw [List.filter_filter]
  congr 2
  funext c
  rw [Bool.eq_iff_iff]
  simp [and_comm]
theorem pickN_yes {p : Cell → Bool} {n : Int} {l : List Cell} {i : Nat} {c : Cell} (h : l[i]? = some c) (h2 : p c = true) (h3 : ((((l.take i).filter p).take n.toNat).length : Int) < n) : ((l.take (i + 1)).filter p).take n.toNat = ((l.take i).filter p).take n.toNat ++ [c] := by
  rw [take_next h, List.filter_append, List.filter_cons_of_pos h2, List.filter_nil]
  exact takeN_lt c (by omega)
theorem pickN_no {p : Cell → Bool} {n : Int} {l : List Cell} {i : Nat} {c : Cell} (h : l[i]? = some c) (h2 : p c = false) : ((l.take (i + 1)).filter p).take n.toNat = ((l.take i).filter p).take n.toNat := by
  rw [take_next h, List.filter_append, List.filter_cons_of_neg (by rw [h2]; decide), List.filter_nil, List.append_nil]
theorem pickN_full {p : Cell → Bool} {n : Int} {l : List Cell} {i : Nat} (h3 : ¬ ((((l.take i).filter p).take n.toNat).length : Int) < n) (j : Nat) (hj : i ≤ j) : ((l.take j).filter p).take n.toNat = ((l.take i).filter p).take n.toNat := by
  have : l.take j = l.take i ++ (l.drop i).take (j - i) := by rw [← List.take_add]; congr 1; omega
  rw [this, List.filter_append]
  exact takeN_ge _ (by omega)
theorem pickN_len {p : Cell → Bool} {n : Int} {l : List Cell} {i : Nat} : (((l.take i).filter p).take n.toNat).length ≤ i := by
  rw [List.length_take]
  have := List.length_filter_le p (l.take i)
  rw [List.length_take] at this
  omega

theorem f15_ok {v : AV} {l : List Cell} (hA : Arr H 5 v (l.map Cell.enc)) (hl : l.length < 4294967296) (f t : List Nat) (n : Int) :
    FnOk Try.prog 15 [v, .agg [.str f, .str t], .int .i64 n] H fun r G => r = outV H.nx 3 (rowsL f t n l).length ∧ G = H.ext (outL 3 ((rowsL f t n l).map Cell.row)) := by
  refine FnOk.assume fun hok => ?_
  have hf20 := f20_ok (hA.ext [.row true 2 [[.str f, .str t]]]) hl f t
  rw [← liveN_within]
  have hml : (withinL f t l).length ≤ l.length := List.length_filter_le _ _
  revert hf20 hml
  generalize withinL f t l = m
  intro hf20 hml
  rw [show (liveN n m).length = ((liveN n m).map Cell.row).length from (List.length_map ..).symm]
  refine FnOk.dropV (Cell.map_row · _) ?_
  rw [List.length_map]
  refine FnOk.of_WW Try.func15 rfl C15ok R15ok E0 good_E0 ?_
  have hv : ∃ k : K, True := ⟨.z, trivial⟩
  simp only [go_sem, C15, Nat.reduceAdd, Nat.reduceSub, Nat.reduceMul, Nat.reduceDiv, Nat.reduceMod, Nat.reduceEqDiff, Nat.reduceLeDiff, Nat.reduceLT, Int.reduceLT, Int.reduceLE, Int.reduceEq, Int.reduceToNat, reduceIte, reduceCtorEq]
  refine CL.of hf20 ?_
  rintro _ _ ⟨rfl, rfl⟩
  rcases Nat.eq_zero_or_pos m.length with hm0 | hm0
  · obtain rfl := List.length_eq_zero_iff.1 hm0
    simp only [go_sem, Nat.reduceAdd, Nat.reduceSub, Nat.reduceMul, Nat.reduceDiv, Nat.reduceMod, Nat.reduceEqDiff, Nat.reduceLeDiff, Nat.reduceLT, Int.reduceLT, Int.reduceLE, Int.reduceEq, Int.reduceToNat, reduceIte, reduceCtorEq, List.length_nil, List.map_nil, List.length_cons, List.map_cons, List.replicate_succ, List.replicate_zero, List.set_cons_zero, List.take_succ_cons, List.take_zero, List.take_nil, List.length_append, List.map_append, List.cons_append, List.nil_append, List.drop_succ_cons, List.append_nil]
    refine LL.st good_E0 (fun i : Nat => 0) (fun i => True)
      (fun i => [((.o (.o (.o .z))), .nils), ((.o (.i (.i .z))), .int .i64 0), ((.i (.i (.i .z))), .int .i64 0)])
      (fun i => [.dead]) ?_ 0 (σ := [0]) (Wk.mk' rfl (by decide) (by simp only [go_sem, List.length_nil, Nat.reduceAdd, Nat.reduceSub, Nat.reduceMul, Nat.reduceDiv, Nat.reduceMod, Nat.reduceEqDiff, Nat.reduceLeDiff, Nat.reduceLT, Int.reduceLT, Int.reduceLE, Int.reduceEq, Int.reduceToNat, reduceIte, reduceCtorEq]) (by simp only [go_sem, List.length_nil, Nat.reduceAdd, Nat.reduceSub, Nat.reduceMul, Nat.reduceDiv, Nat.reduceMod, Nat.reduceEqDiff, Nat.reduceLeDiff, Nat.reduceLT, Int.reduceLT, Int.reduceLE, Int.reduceEq, Int.reduceToNat, reduceIte, reduceCtorEq])) trivial
    rintro i -
    simp only [go_sem, C15L0, Nat.reduceAdd, Nat.reduceSub, Nat.reduceMul, Nat.reduceDiv, Nat.reduceMod, Nat.reduceEqDiff, Nat.reduceLeDiff, Nat.reduceLT, Int.reduceLT, Int.reduceLE, Int.reduceEq, Int.reduceToNat, reduceIte, reduceCtorEq]
    have h0 : liveN n [] = [] := by simp [liveN]
    rw [h0]
    exact ⟨_, 0, rfl, rfl, rfl⟩
  · simp only [go_sem, Nat.reduceAdd, Nat.reduceSub, Nat.reduceMul, Nat.reduceDiv, Nat.reduceMod, Nat.reduceEqDiff, Nat.reduceLeDiff, Nat.reduceLT, Int.reduceLT, Int.reduceLE, Int.reduceEq, Int.reduceToNat, reduceIte, reduceCtorEq, outV_pos hm0, outL_pos (show 0 < (m.map Cell.enc).length by rw [List.length_map]; exact hm0), List.length_nil, List.map_nil, List.length_cons, List.map_cons, List.replicate_succ, List.replicate_zero, List.set_cons_zero, List.take_succ_cons, List.take_zero, List.take_nil, List.length_append, List.map_append, List.cons_append, List.nil_append, List.drop_succ_cons, List.append_nil]
    refine LL.st good_E0 (fun i : Nat => m.length - i) (fun i => i ≤ m.length)
      (fun i => [((.i .z), .int .i64 n), ((.o (.o (.o .z))), outV (H.key 2) 3 (liveN n (m.take i)).length), ((.i (.o (.i .z))), .slice (H.key 1) 0 m.length 5 false m.length), ((.o (.i (.i .z))), .int .i64 m.length), ((.i (.i (.i .z))), .int .i64 i)])
      (fun i => [.row true 2 [[.str f, .str t]], .row true 5 (m.map Cell.enc), outB 3 ((liveN n (m.take i)).map Cell.row)]) ?_ 0 (σ := [0, 1, 2]) (Wk.mk' rfl (by decide) (by simp only [go_sem, List.take_zero, liveN, List.filter_nil, List.take_nil, List.length_nil, List.map_nil, Cell.map_rens, Nat.reduceAdd, Nat.reduceSub, Nat.reduceMul, Nat.reduceDiv, Nat.reduceMod, Nat.reduceEqDiff, Nat.reduceLeDiff, Nat.reduceLT, Int.reduceLT, Int.reduceLE, Int.reduceEq, Int.reduceToNat, reduceIte, reduceCtorEq]) (by simp only [go_sem, List.take_zero, liveN, List.filter_nil, List.take_nil, List.length_nil, List.map_nil, Cell.map_rens, Nat.reduceAdd, Nat.reduceSub, Nat.reduceMul, Nat.reduceDiv, Nat.reduceMod, Nat.reduceEqDiff, Nat.reduceLeDiff, Nat.reduceLT, Int.reduceLT, Int.reduceLE, Int.reduceEq, Int.reduceToNat, reduceIte, reduceCtorEq])) (by omega)
    rintro i hi
    by_cases hlt : i < m.length
    · have hw := wrap_succ (n := i) (by omega)
      have hci : (i : Int) < (m.length : Int) := by omega
      have hsi : i + 1 ≤ m.length := by omega
      have hgetm : m[i]? = some m[i] := List.getElem?_eq_getElem hlt
      have hmi : (m.map Cell.enc)[i]? = some m[i].enc := by rw [List.getElem?_map, hgetm]; rfl
      have hlen := pickN_len (p := fun c => decide (there c)) (n := n) (l := m) (i := i)
      have hmx2 : (2 * 1 + 192) * 40 ≤ 281474976710656 := by decide
      rcases hx : liveN n (m.take i) with _ | ⟨x, xs⟩ <;> unfold liveN at hx
      · rw [hx] at hlen
        simp only [go_sem, C15L0, Nat.reduceAdd, Nat.reduceSub, Nat.reduceMul, Nat.reduceDiv, Nat.reduceMod, Nat.reduceEqDiff, Nat.reduceLeDiff, Nat.reduceLT, Int.reduceLT, Int.reduceLE, Int.reduceEq, Int.reduceToNat, reduceIte, reduceCtorEq, List.length_nil, List.map_nil, List.length_cons, List.map_cons, List.replicate_succ, List.replicate_zero, List.set_cons_zero, List.take_succ_cons, List.take_zero, List.take_nil, List.length_append, List.map_append, List.cons_append, List.nil_append, List.drop_succ_cons, List.append_nil, hgetm, hw, hci, hsi, hmi, hmx2,  Cell.enc]
        refine CL.bool (f45_ok m[i]) (fun h1 => ?_) (fun h1 => ?_)
        · simp only [go_sem, Nat.reduceAdd, Nat.reduceSub, Nat.reduceMul, Nat.reduceDiv, Nat.reduceMod, Nat.reduceEqDiff, Nat.reduceLeDiff, Nat.reduceLT, Int.reduceLT, Int.reduceLE, Int.reduceEq, Int.reduceToNat, reduceIte, reduceCtorEq, List.length_nil, List.map_nil, List.length_cons, List.map_cons, List.replicate_succ, List.replicate_zero, List.set_cons_zero, List.take_succ_cons, List.take_zero, List.take_nil, List.length_append, List.map_append, List.cons_append, List.nil_append, List.drop_succ_cons, List.append_nil, hgetm, hw, hci, hsi, hmi, hmx2,  Cell.enc]
          refine ⟨fun h2 => ?_, fun h2 => ?_⟩
          · have hnew := pickN_yes (p := fun c => decide (there c)) (n := n) hgetm (decide_eq_true h1) (by rw [hx]; simp only [List.length_cons, List.length_nil]; omega)
            rw [hx] at hnew
            try simp only [go_sem, Nat.reduceAdd, Nat.reduceSub, Nat.reduceMul, Nat.reduceDiv, Nat.reduceMod, Nat.reduceEqDiff, Nat.reduceLeDiff, Nat.reduceLT, Int.reduceLT, Int.reduceLE, Int.reduceEq, Int.reduceToNat, reduceIte, reduceCtorEq, List.length_nil, List.map_nil, List.length_cons, List.map_cons, List.replicate_succ, List.replicate_zero, List.set_cons_zero, List.take_succ_cons, List.take_zero, List.take_nil, List.length_append, List.map_append, List.cons_append, List.nil_append, List.drop_succ_cons, List.append_nil, hgetm, hw, hci, hsi, hmi, hmx2,  Cell.enc]
            refine ⟨i + 1, by show m.length - (i + 1) < m.length - i; omega, ?_, _, [0, 1, 5], rfl, Wk.mk' rfl (by decide) (by simp only [go_sem, List.length_map, Cell.map_rens, Cell.map_row, hgetm, hnew, Cell.row, liveN, List.length_nil, List.map_nil, List.length_cons, List.map_cons, List.replicate_succ, List.replicate_zero, List.set_cons_zero, List.take_succ_cons, List.take_zero, List.take_nil, List.length_append, List.map_append, List.cons_append, List.nil_append, List.drop_succ_cons, List.append_nil, Nat.reduceAdd, Nat.reduceSub, Nat.reduceMul, Nat.reduceDiv, Nat.reduceMod, Nat.reduceEqDiff, Nat.reduceLeDiff, Nat.reduceLT, Int.reduceLT, Int.reduceLE, Int.reduceEq, Int.reduceToNat, reduceIte, reduceCtorEq]) (by simp only [go_sem, List.length_map, Cell.map_rens, Cell.map_row, hgetm, hnew, Cell.row, liveN, List.length_nil, List.map_nil, List.length_cons, List.map_cons, List.replicate_succ, List.replicate_zero, List.set_cons_zero, List.take_succ_cons, List.take_zero, List.take_nil, List.length_append, List.map_append, List.cons_append, List.nil_append, List.drop_succ_cons, List.append_nil, Nat.reduceAdd, Nat.reduceSub, Nat.reduceMul, Nat.reduceDiv, Nat.reduceMod, Nat.reduceEqDiff, Nat.reduceLeDiff, Nat.reduceLT, Int.reduceLT, Int.reduceLE, Int.reduceEq, Int.reduceToNat, reduceIte, reduceCtorEq])⟩
            omega
          · have hnew := pickN_full (p := fun c => decide (there c)) (n := n) (l := m) (i := i) (by rw [hx]; simp only [List.length_cons, List.length_nil]; omega) (i + 1) (by omega)
            rw [hx] at hnew
            try simp only [go_sem, Nat.reduceAdd, Nat.reduceSub, Nat.reduceMul, Nat.reduceDiv, Nat.reduceMod, Nat.reduceEqDiff, Nat.reduceLeDiff, Nat.reduceLT, Int.reduceLT, Int.reduceLE, Int.reduceEq, Int.reduceToNat, reduceIte, reduceCtorEq, List.length_nil, List.map_nil, List.length_cons, List.map_cons, List.replicate_succ, List.replicate_zero, List.set_cons_zero, List.take_succ_cons, List.take_zero, List.take_nil, List.length_append, List.map_append, List.cons_append, List.nil_append, List.drop_succ_cons, List.append_nil, hgetm, hw, hci, hsi, hmi, hmx2,  Cell.enc]
            refine ⟨i + 1, by show m.length - (i + 1) < m.length - i; omega, ?_, _, [0, 1, 2], rfl, Wk.mk' rfl (by decide) (by simp only [go_sem, List.length_map, Cell.map_rens, Cell.map_row, hgetm, hnew, Cell.row, liveN, List.length_nil, List.map_nil, List.length_cons, List.map_cons, List.replicate_succ, List.replicate_zero, List.set_cons_zero, List.take_succ_cons, List.take_zero, List.take_nil, List.length_append, List.map_append, List.cons_append, List.nil_append, List.drop_succ_cons, List.append_nil, Nat.reduceAdd, Nat.reduceSub, Nat.reduceMul, Nat.reduceDiv, Nat.reduceMod, Nat.reduceEqDiff, Nat.reduceLeDiff, Nat.reduceLT, Int.reduceLT, Int.reduceLE, Int.reduceEq, Int.reduceToNat, reduceIte, reduceCtorEq]) (by simp only [go_sem, List.length_map, Cell.map_rens, Cell.map_row, hgetm, hnew, Cell.row, liveN, List.length_nil, List.map_nil, List.length_cons, List.map_cons, List.replicate_succ, List.replicate_zero, List.set_cons_zero, List.take_succ_cons, List.take_zero, List.take_nil, List.length_append, List.map_append, List.cons_append, List.nil_append, List.drop_succ_cons, List.append_nil, Nat.reduceAdd, Nat.reduceSub, Nat.reduceMul, Nat.reduceDiv, Nat.reduceMod, Nat.reduceEqDiff, Nat.reduceLeDiff, Nat.reduceLT, Int.reduceLT, Int.reduceLE, Int.reduceEq, Int.reduceToNat, reduceIte, reduceCtorEq])⟩
            omega
        · have hnew := pickN_no (p := fun c => decide (there c)) (n := n) hgetm (decide_eq_false h1)
          rw [hx] at hnew
          simp only [go_sem, Nat.reduceAdd, Nat.reduceSub, Nat.reduceMul, Nat.reduceDiv, Nat.reduceMod, Nat.reduceEqDiff, Nat.reduceLeDiff, Nat.reduceLT, Int.reduceLT, Int.reduceLE, Int.reduceEq, Int.reduceToNat, reduceIte, reduceCtorEq, List.length_nil, List.map_nil, List.length_cons, List.map_cons, List.replicate_succ, List.replicate_zero, List.set_cons_zero, List.take_succ_cons, List.take_zero, List.take_nil, List.length_append, List.map_append, List.cons_append, List.nil_append, List.drop_succ_cons, List.append_nil, hgetm, hw, hci, hsi, hmi, hmx2,  Cell.enc]
          refine ⟨i + 1, by show m.length - (i + 1) < m.length - i; omega, ?_, _, [0, 1, 2], rfl, Wk.mk' rfl (by decide) (by simp only [go_sem, List.length_map, Cell.map_rens, Cell.map_row, hgetm, hnew, Cell.row, liveN, List.length_nil, List.map_nil, List.length_cons, List.map_cons, List.replicate_succ, List.replicate_zero, List.set_cons_zero, List.take_succ_cons, List.take_zero, List.take_nil, List.length_append, List.map_append, List.cons_append, List.nil_append, List.drop_succ_cons, List.append_nil, Nat.reduceAdd, Nat.reduceSub, Nat.reduceMul, Nat.reduceDiv, Nat.reduceMod, Nat.reduceEqDiff, Nat.reduceLeDiff, Nat.reduceLT, Int.reduceLT, Int.reduceLE, Int.reduceEq, Int.reduceToNat, reduceIte, reduceCtorEq]) (by simp only [go_sem, List.length_map, Cell.map_rens, Cell.map_row, hgetm, hnew, Cell.row, liveN, List.length_nil, List.map_nil, List.length_cons, List.map_cons, List.replicate_succ, List.replicate_zero, List.set_cons_zero, List.take_succ_cons, List.take_zero, List.take_nil, List.length_append, List.map_append, List.cons_append, List.nil_append, List.drop_succ_cons, List.append_nil, Nat.reduceAdd, Nat.reduceSub, Nat.reduceMul, Nat.reduceDiv, Nat.reduceMod, Nat.reduceEqDiff, Nat.reduceLeDiff, Nat.reduceLT, Int.reduceLT, Int.reduceLE, Int.reduceEq, Int.reduceToNat, reduceIte, reduceCtorEq])⟩
          omega

      · rw [hx] at hlen
        simp only [List.length_cons] at hlen
        have hfull : ¬ xs.length + 1 ≤ xs.length := by omega
        have htk : List.take xs.length (xs.map Cell.row) = xs.map Cell.row := List.take_of_length_le (by simp)
        have hself : xs.length ≤ xs.length := Nat.le_refl _
        have h5 : xs.length < 4294967296 := Nat.lt_of_lt_of_le (Nat.lt_of_succ_le hlen) (Nat.le_trans hi (Nat.le_trans hml (Nat.le_of_lt hl)))
        have hmx : (2 * (xs.length + 1 + 1) + 192) * 40 ≤ 281474976710656 := mx40 h5
        simp only [go_sem, C15L0, Nat.reduceAdd, Nat.reduceSub, Nat.reduceMul, Nat.reduceDiv, Nat.reduceMod, Nat.reduceEqDiff, Nat.reduceLeDiff, Nat.reduceLT, Int.reduceLT, Int.reduceLE, Int.reduceEq, Int.reduceToNat, reduceIte, reduceCtorEq, List.length_nil, List.map_nil, List.length_cons, List.map_cons, List.replicate_succ, List.replicate_zero, List.set_cons_zero, List.take_succ_cons, List.take_zero, List.take_nil, List.length_append, List.map_append, List.cons_append, List.nil_append, List.drop_succ_cons, List.append_nil, hgetm, hw, hci, hsi, hmi, hmx2, hfull, htk, hself, hmx,  Cell.enc]
        refine CL.bool (f45_ok m[i]) (fun h1 => ?_) (fun h1 => ?_)
        · simp only [go_sem, Nat.reduceAdd, Nat.reduceSub, Nat.reduceMul, Nat.reduceDiv, Nat.reduceMod, Nat.reduceEqDiff, Nat.reduceLeDiff, Nat.reduceLT, Int.reduceLT, Int.reduceLE, Int.reduceEq, Int.reduceToNat, reduceIte, reduceCtorEq, List.length_nil, List.map_nil, List.length_cons, List.map_cons, List.replicate_succ, List.replicate_zero, List.set_cons_zero, List.take_succ_cons, List.take_zero, List.take_nil, List.length_append, List.map_append, List.cons_append, List.nil_append, List.drop_succ_cons, List.append_nil, hgetm, hw, hci, hsi, hmi, hmx2, hfull, htk, hself, hmx,  Cell.enc]
          refine ⟨fun h2 => ?_, fun h2 => ?_⟩
          · have hnew := pickN_yes (p := fun c => decide (there c)) (n := n) hgetm (decide_eq_true h1) (by rw [hx]; simp only [List.length_cons, List.length_nil]; omega)
            rw [hx] at hnew
            try simp only [go_sem, Nat.reduceAdd, Nat.reduceSub, Nat.reduceMul, Nat.reduceDiv, Nat.reduceMod, Nat.reduceEqDiff, Nat.reduceLeDiff, Nat.reduceLT, Int.reduceLT, Int.reduceLE, Int.reduceEq, Int.reduceToNat, reduceIte, reduceCtorEq, List.length_nil, List.map_nil, List.length_cons, List.map_cons, List.replicate_succ, List.replicate_zero, List.set_cons_zero, List.take_succ_cons, List.take_zero, List.take_nil, List.length_append, List.map_append, List.cons_append, List.nil_append, List.drop_succ_cons, List.append_nil, hgetm, hw, hci, hsi, hmi, hmx2, hfull, htk, hself, hmx,  Cell.enc]
            refine ⟨i + 1, by show m.length - (i + 1) < m.length - i; omega, ?_, _, [0, 1, 5], rfl, Wk.mk' rfl (by decide) (by simp only [go_sem, List.length_map, Cell.map_rens, Cell.map_row, hgetm, hnew, Cell.row, liveN, List.length_nil, List.map_nil, List.length_cons, List.map_cons, List.replicate_succ, List.replicate_zero, List.set_cons_zero, List.take_succ_cons, List.take_zero, List.take_nil, List.length_append, List.map_append, List.cons_append, List.nil_append, List.drop_succ_cons, List.append_nil, Nat.reduceAdd, Nat.reduceSub, Nat.reduceMul, Nat.reduceDiv, Nat.reduceMod, Nat.reduceEqDiff, Nat.reduceLeDiff, Nat.reduceLT, Int.reduceLT, Int.reduceLE, Int.reduceEq, Int.reduceToNat, reduceIte, reduceCtorEq]) (by simp only [go_sem, List.length_map, Cell.map_rens, Cell.map_row, hgetm, hnew, Cell.row, liveN, List.length_nil, List.map_nil, List.length_cons, List.map_cons, List.replicate_succ, List.replicate_zero, List.set_cons_zero, List.take_succ_cons, List.take_zero, List.take_nil, List.length_append, List.map_append, List.cons_append, List.nil_append, List.drop_succ_cons, List.append_nil, Nat.reduceAdd, Nat.reduceSub, Nat.reduceMul, Nat.reduceDiv, Nat.reduceMod, Nat.reduceEqDiff, Nat.reduceLeDiff, Nat.reduceLT, Int.reduceLT, Int.reduceLE, Int.reduceEq, Int.reduceToNat, reduceIte, reduceCtorEq])⟩
            omega
          · have hnew := pickN_full (p := fun c => decide (there c)) (n := n) (l := m) (i := i) (by rw [hx]; simp only [List.length_cons, List.length_nil]; omega) (i + 1) (by omega)
            rw [hx] at hnew
            try simp only [go_sem, Nat.reduceAdd, Nat.reduceSub, Nat.reduceMul, Nat.reduceDiv, Nat.reduceMod, Nat.reduceEqDiff, Nat.reduceLeDiff, Nat.reduceLT, Int.reduceLT, Int.reduceLE, Int.reduceEq, Int.reduceToNat, reduceIte, reduceCtorEq, List.length_nil, List.map_nil, List.length_cons, List.map_cons, List.replicate_succ, List.replicate_zero, List.set_cons_zero, List.take_succ_cons, List.take_zero, List.take_nil, List.length_append, List.map_append, List.cons_append, List.nil_append, List.drop_succ_cons, List.append_nil, hgetm, hw, hci, hsi, hmi, hmx2, hfull, htk, hself, hmx,  Cell.enc]
            refine ⟨i + 1, by show m.length - (i + 1) < m.length - i; omega, ?_, _, [0, 1, 2], rfl, Wk.mk' rfl (by decide) (by simp only [go_sem, List.length_map, Cell.map_rens, Cell.map_row, hgetm, hnew, Cell.row, liveN, List.length_nil, List.map_nil, List.length_cons, List.map_cons, List.replicate_succ, List.replicate_zero, List.set_cons_zero, List.take_succ_cons, List.take_zero, List.take_nil, List.length_append, List.map_append, List.cons_append, List.nil_append, List.drop_succ_cons, List.append_nil, Nat.reduceAdd, Nat.reduceSub, Nat.reduceMul, Nat.reduceDiv, Nat.reduceMod, Nat.reduceEqDiff, Nat.reduceLeDiff, Nat.reduceLT, Int.reduceLT, Int.reduceLE, Int.reduceEq, Int.reduceToNat, reduceIte, reduceCtorEq]) (by simp only [go_sem, List.length_map, Cell.map_rens, Cell.map_row, hgetm, hnew, Cell.row, liveN, List.length_nil, List.map_nil, List.length_cons, List.map_cons, List.replicate_succ, List.replicate_zero, List.set_cons_zero, List.take_succ_cons, List.take_zero, List.take_nil, List.length_append, List.map_append, List.cons_append, List.nil_append, List.drop_succ_cons, List.append_nil, Nat.reduceAdd, Nat.reduceSub, Nat.reduceMul, Nat.reduceDiv, Nat.reduceMod, Nat.reduceEqDiff, Nat.reduceLeDiff, Nat.reduceLT, Int.reduceLT, Int.reduceLE, Int.reduceEq, Int.reduceToNat, reduceIte, reduceCtorEq])⟩
            omega
        · have hnew := pickN_no (p := fun c => decide (there c)) (n := n) hgetm (decide_eq_false h1)
          rw [hx] at hnew
          simp only [go_sem, Nat.reduceAdd, Nat.reduceSub, Nat.reduceMul, Nat.reduceDiv, Nat.reduceMod, Nat.reduceEqDiff, Nat.reduceLeDiff, Nat.reduceLT, Int.reduceLT, Int.reduceLE, Int.reduceEq, Int.reduceToNat, reduceIte, reduceCtorEq, List.length_nil, List.map_nil, List.length_cons, List.map_cons, List.replicate_succ, List.replicate_zero, List.set_cons_zero, List.take_succ_cons, List.take_zero, List.take_nil, List.length_append, List.map_append, List.cons_append, List.nil_append, List.drop_succ_cons, List.append_nil, hgetm, hw, hci, hsi, hmi, hmx2, hfull, htk, hself, hmx,  Cell.enc]
          refine ⟨i + 1, by show m.length - (i + 1) < m.length - i; omega, ?_, _, [0, 1, 2], rfl, Wk.mk' rfl (by decide) (by simp only [go_sem, List.length_map, Cell.map_rens, Cell.map_row, hgetm, hnew, Cell.row, liveN, List.length_nil, List.map_nil, List.length_cons, List.map_cons, List.replicate_succ, List.replicate_zero, List.set_cons_zero, List.take_succ_cons, List.take_zero, List.take_nil, List.length_append, List.map_append, List.cons_append, List.nil_append, List.drop_succ_cons, List.append_nil, Nat.reduceAdd, Nat.reduceSub, Nat.reduceMul, Nat.reduceDiv, Nat.reduceMod, Nat.reduceEqDiff, Nat.reduceLeDiff, Nat.reduceLT, Int.reduceLT, Int.reduceLE, Int.reduceEq, Int.reduceToNat, reduceIte, reduceCtorEq]) (by simp only [go_sem, List.length_map, Cell.map_rens, Cell.map_row, hgetm, hnew, Cell.row, liveN, List.length_nil, List.map_nil, List.length_cons, List.map_cons, List.replicate_succ, List.replicate_zero, List.set_cons_zero, List.take_succ_cons, List.take_zero, List.take_nil, List.length_append, List.map_append, List.cons_append, List.nil_append, List.drop_succ_cons, List.append_nil, Nat.reduceAdd, Nat.reduceSub, Nat.reduceMul, Nat.reduceDiv, Nat.reduceMod, Nat.reduceEqDiff, Nat.reduceLeDiff, Nat.reduceLT, Int.reduceLT, Int.reduceLE, Int.reduceEq, Int.reduceToNat, reduceIte, reduceCtorEq])⟩
          omega

    · have hci : ¬ (i : Int) < (m.length : Int) := by omega
      simp only [go_sem, C15L0, Nat.reduceAdd, Nat.reduceSub, Nat.reduceMul, Nat.reduceDiv, Nat.reduceMod, Nat.reduceEqDiff, Nat.reduceLeDiff, Nat.reduceLT, Int.reduceLT, Int.reduceLE, Int.reduceEq, Int.reduceToNat, reduceIte, reduceCtorEq, List.length_map, hci]
      rw [take_all (by omega)]
      exact ⟨_, 2, rfl, rfl, rfl⟩

end Go.Proofs
