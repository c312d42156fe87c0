/- index: the reference way to put a cell in its place, walked. -/
import Derived.Test.YtiadcabmonbgiaaX1Z
set_option linter.all false
set_option maxRecDepth 100000
namespace Go.Proofs
open Go Go.Ev
variable {H : Heap}

theorem f22_ok {v : AV} {l : List Cell} (hA : Arr H 5 v (l.map Cell.enc)) (hl : l.length < 4294967295) (c : Cell) :
    FnOk Try.prog 22 [v, .agg c.enc] H fun r G => r = frV v H.nx 5 (withC l c).length ∧ G = H.ext (frL v 5 ((withC l c).map Cell.enc)) := by
  rcases hA.forms with ⟨rfl, hnil⟩ | ⟨k, off, ex, cap, rfl, _⟩
  · obtain rfl : l = [] := List.map_eq_nil_iff.1 hnil
    exact f22_nil
  · rcases Nat.eq_zero_or_pos l.length with h0 | h0
    · obtain rfl := List.length_eq_zero_iff.1 h0
      exact f22_zero
    · exact f22_arr hA h0 hl
noncomputable def stepW (c : Cell) (s : List Cell × Bool) (d : Cell) : List Cell × Bool :=
  let s' := if s.2 = false ∧ ¬ ltS d.key c.key then (s.1 ++ [c], true) else s
  (if d.key = c.key then s'.1 else s'.1 ++ [d], s'.2)
noncomputable def runW (c : Cell) (l : List Cell) : List Cell × Bool := l.foldl (stepW c) ([], false)
noncomputable def refW (l : List Cell) (c : Cell) : List Cell := if (runW c l).2 then (runW c l).1 else (runW c l).1 ++ [c]
theorem runW_next {c d : Cell} {l : List Cell} {i : Nat} (h : l[i]? = some d) : runW c (l.take (i + 1)) = stepW c (runW c (l.take i)) d := by
  rw [take_next h, runW, List.foldl_append]; rfl
theorem stepW_len (c d : Cell) (s : List Cell × Bool) : (stepW c s d).1.length + (if (stepW c s d).2 then 0 else 1) ≤ s.1.length + (if s.2 then 0 else 1) + 1 := by
  unfold stepW
  rcases s with ⟨a, b⟩
  by_cases h1 : b = false ∧ ¬ ltS d.key c.key
  · simp only [h1, and_self, if_true]
    split <;> simp <;> (obtain ⟨rfl, _⟩ := h1; simp) <;> omega
  · simp only [if_neg h1]
    split <;> simp <;> omega
theorem runW_len (c : Cell) (l : List Cell) (i : Nat) (hi : i ≤ l.length) : (runW c (l.take i)).1.length + (if (runW c (l.take i)).2 then 0 else 1) ≤ i + 1 := by
  induction i with
  | zero => simp [runW]
  | succ i ih =>
    have hget : l[i]? = some l[i] := List.getElem?_eq_getElem (by omega)
    rw [runW_next hget]
    have := stepW_len c l[i] (runW c (l.take i))
    have := ih (by omega)
    omega

theorem mx56 {n : Nat} (h : n < 4294967296) : (2 * (n + 1 + 1) + 192) * 56 ≤ 281474976710656 := by omega
theorem mx56b {n : Nat} (h : n < 4294967296) : (2 * (n + 1 + 1 + 1) + 192) * 56 ≤ 281474976710656 := by omega
theorem f23_no {v : AV} {l : List Cell} (hA : Arr H 5 v (l.map Cell.enc)) {c : Cell} (hc : ¬ cellIs c) :
    FnOk Try.prog 23 [v, .agg c.enc] H fun r G => r = v ∧ G = H := by
  refine FnOk.dropOld (R := fun r => r = v) ?_ ?_
  · refine FnOk.of_WW Try.func23 rfl C23ok R23ok E0 good_E0 ?_
    simp only [go_sem, C23, Nat.reduceAdd, Nat.reduceSub, Nat.reduceMul, Nat.reduceDiv, Nat.reduceMod, Nat.reduceEqDiff, Nat.reduceLeDiff, Nat.reduceLT, Int.reduceLT, Int.reduceLE, Int.reduceEq, Int.reduceToNat, reduceIte, reduceCtorEq, Cell.enc]
    refine CL.bool (f24_ok c) (fun h1 => absurd h1 hc) (fun h1 => ?_)
    simp only [go_sem, Nat.reduceAdd, Nat.reduceSub, Nat.reduceMul, Nat.reduceDiv, Nat.reduceMod, Nat.reduceEqDiff, Nat.reduceLeDiff, Nat.reduceLT, Int.reduceLT, Int.reduceLE, Int.reduceEq, Int.reduceToNat, reduceIte, reduceCtorEq, List.length_nil, List.map_nil, List.length_cons, List.map_cons, List.replicate_succ, List.replicate_zero, List.set_cons_zero, List.take_succ_cons, List.take_zero, List.take_nil, List.length_append, List.map_append, List.cons_append, List.nil_append, List.drop_succ_cons, List.append_nil]
    exact ⟨_, rfl⟩
  · rintro _ rfl top σ
    rcases hA.forms with ⟨rfl, hnil⟩ | ⟨k, off, ex, cap, rfl, hrho⟩
    · rw [AV.ren]
    · rw [AV.ren, hrho]
theorem f23_yes {v : AV} {l : List Cell} (hA : Arr H 5 v (l.map Cell.enc)) (hl : l.length < 4294967295) {c : Cell} (hc : cellIs c) :
    FnOk Try.prog 23 [v, .agg c.enc] H fun r G => r = outV H.nx 5 (refW l c).length ∧ G = H.ext (outL 5 ((refW l c).map Cell.enc)) := by
  refine FnOk.assume fun hok => ?_
  rw [show (refW l c).length = ((refW l c).map Cell.enc).length from (List.length_map ..).symm]
  refine FnOk.dropV (Cell.map_rens · _) ?_
  rw [List.length_map]
  refine FnOk.of_WW Try.func23 rfl C23ok R23ok E0 good_E0 ?_
  rcases hA.forms with ⟨rfl, hnil⟩ | ⟨k, off, ex, cap, rfl, hrho⟩
  · have hn0 : l.length = 0 := by simpa using hnil
    simp only [go_sem, C23, Nat.reduceAdd, Nat.reduceSub, Nat.reduceMul, Nat.reduceDiv, Nat.reduceMod, Nat.reduceEqDiff, Nat.reduceLeDiff, Nat.reduceLT, Int.reduceLT, Int.reduceLE, Int.reduceEq, Int.reduceToNat, reduceIte, reduceCtorEq, Cell.enc]
    refine CL.bool (f24_ok c) (fun h1 => ?_) (fun h1 => absurd hc h1)
    simp only [go_sem, Nat.reduceAdd, Nat.reduceSub, Nat.reduceMul, Nat.reduceDiv, Nat.reduceMod, Nat.reduceEqDiff, Nat.reduceLeDiff, Nat.reduceLT, Int.reduceLT, Int.reduceLE, Int.reduceEq, Int.reduceToNat, reduceIte, reduceCtorEq, List.length_nil, List.map_nil, List.length_cons, List.map_cons, List.replicate_succ, List.replicate_zero, List.set_cons_zero, List.take_succ_cons, List.take_zero, List.take_nil, List.length_append, List.map_append, List.cons_append, List.nil_append, List.drop_succ_cons, List.append_nil]
    refine LL.st good_E0 (fun i : Nat => l.length - i) (fun i => i ≤ l.length)
      (fun i => [(.z, .nils), ((.o (.o .z)), .ptr (H.key 0) 0), ((.o (.i .z)), outV (H.key 1) 5 (runW c (l.take i)).1.length), ((.i (.i .z)), .bool (runW c (l.take i)).2), ((.o (.o (.o .z))), .int .i64 i)])
      (fun i => [.row true 5 [c.enc], outB 5 ((runW c (l.take i)).1.map Cell.enc)]) ?_ 0 (σ := [0, 1]) (Wk.mk' rfl (by decide) (by simp only [go_sem, List.length_map, hn0, List.take_zero, runW, List.foldl_nil, List.length_nil, List.map_nil, List.map_cons, Cell.enc, Nat.reduceAdd, Nat.reduceSub, Nat.reduceMul, Nat.reduceDiv, Nat.reduceMod, Nat.reduceEqDiff, Nat.reduceLeDiff, Nat.reduceLT, Int.reduceLT, Int.reduceLE, Int.reduceEq, Int.reduceToNat, reduceIte, reduceCtorEq]) (by simp only [go_sem, List.length_map, hn0, List.take_zero, runW, List.foldl_nil, List.length_nil, List.map_nil, List.map_cons, Cell.enc, Nat.reduceAdd, Nat.reduceSub, Nat.reduceMul, Nat.reduceDiv, Nat.reduceMod, Nat.reduceEqDiff, Nat.reduceLeDiff, Nat.reduceLT, Int.reduceLT, Int.reduceLE, Int.reduceEq, Int.reduceToNat, reduceIte, reduceCtorEq])) (by omega)
    rintro i hi
    have hlen := runW_len c l i hi
    by_cases hlt : i < l.length
    · exact absurd hlt (by omega)
    · have hci : ¬ (i : Int) < (l.length : Int) := by omega
      rw [take_all (by omega)]
      have hmx1 : (2 * (1 + 1) + 192) * 56 ≤ 281474976710656 := by decide
      rw [take_all (by omega)] at hlen
      rcases hx : runW c l with ⟨_ | ⟨x, xs⟩, _ | _⟩
      · have hrf : refW l c = [c] := by rw [refW, hx]; rfl
        simp only [go_sem, C23L0, Nat.reduceAdd, Nat.reduceSub, Nat.reduceMul, Nat.reduceDiv, Nat.reduceMod, Nat.reduceEqDiff, Nat.reduceLeDiff, Nat.reduceLT, Int.reduceLT, Int.reduceLE, Int.reduceEq, Int.reduceToNat, reduceIte, reduceCtorEq, List.length_map, hci, show ¬ (i : Int) < 0 by omega, List.length_nil, List.map_nil, List.length_cons, List.map_cons, List.replicate_succ, List.replicate_zero, List.set_cons_zero, List.take_succ_cons, List.take_zero, List.take_nil, List.length_append, List.map_append, List.cons_append, List.nil_append, List.drop_succ_cons, List.append_nil, hmx1, Cell.enc]
        rw [hrf]
        exact ⟨_, 3, rfl, rfl, rfl⟩
      · have hrf : refW l c = [] := by rw [refW, hx]; rfl
        simp only [go_sem, C23L0, Nat.reduceAdd, Nat.reduceSub, Nat.reduceMul, Nat.reduceDiv, Nat.reduceMod, Nat.reduceEqDiff, Nat.reduceLeDiff, Nat.reduceLT, Int.reduceLT, Int.reduceLE, Int.reduceEq, Int.reduceToNat, reduceIte, reduceCtorEq, List.length_map, hci, show ¬ (i : Int) < 0 by omega, List.length_nil, List.map_nil, List.length_cons, List.map_cons, List.replicate_succ, List.replicate_zero, List.set_cons_zero, List.take_succ_cons, List.take_zero, List.take_nil, List.length_append, List.map_append, List.cons_append, List.nil_append, List.drop_succ_cons, List.append_nil, hmx1, Cell.enc]
        rw [hrf]
        exact ⟨_, 1, rfl, rfl, rfl⟩
      · have hrf : refW l c = x :: (xs ++ [c]) := by rw [refW, hx]; rfl
        have hfull : ¬ xs.length + 1 ≤ xs.length := by omega
        have hfull2 : ¬ xs.length + 1 + 1 ≤ xs.length + 1 := by omega
        have htk : List.take xs.length (xs.map Cell.enc) = xs.map Cell.enc := List.take_of_length_le (by simp)
        have htk2 : ∀ e : List AV, List.take (xs.length + 1) (xs.map Cell.enc ++ [e]) = xs.map Cell.enc ++ [e] := fun e => List.take_of_length_le (by simp)
        have hself : xs.length ≤ xs.length := Nat.le_refl _
        have hself2 : xs.length + 1 ≤ xs.length + 1 := Nat.le_refl _
        have h5 : xs.length < 4294967296 := by rw [hx] at hlen; simp only [List.length_cons] at hlen; omega
        have hmx : (2 * (xs.length + 1 + 1) + 192) * 56 ≤ 281474976710656 := mx56 h5
        have hmx2 : (2 * (xs.length + 1 + 1 + 1) + 192) * 56 ≤ 281474976710656 := mx56b h5
        simp only [go_sem, C23L0, Nat.reduceAdd, Nat.reduceSub, Nat.reduceMul, Nat.reduceDiv, Nat.reduceMod, Nat.reduceEqDiff, Nat.reduceLeDiff, Nat.reduceLT, Int.reduceLT, Int.reduceLE, Int.reduceEq, Int.reduceToNat, reduceIte, reduceCtorEq, List.length_map, hci, show ¬ (i : Int) < 0 by omega, List.length_nil, List.map_nil, List.length_cons, List.map_cons, List.replicate_succ, List.replicate_zero, List.set_cons_zero, List.take_succ_cons, List.take_zero, List.take_nil, List.length_append, List.map_append, List.cons_append, List.nil_append, List.drop_succ_cons, List.append_nil, hmx1, hfull, htk, hself, hmx, Cell.enc]
        rw [hrf]
        refine ⟨_, 3, ?_, rfl, ?_⟩
        · simp only [go_sem, List.length_nil, List.map_nil, List.length_cons, List.map_cons, List.replicate_succ, List.replicate_zero, List.set_cons_zero, List.take_succ_cons, List.take_zero, List.take_nil, List.length_append, List.map_append, List.cons_append, List.nil_append, List.drop_succ_cons, List.append_nil, Nat.reduceAdd, Nat.reduceSub, Nat.reduceMul, Nat.reduceDiv, Nat.reduceMod, Nat.reduceEqDiff, Nat.reduceLeDiff, Nat.reduceLT, Int.reduceLT, Int.reduceLE, Int.reduceEq, Int.reduceToNat, reduceIte, reduceCtorEq]
        · simp only [go_sem, List.length_nil, List.map_nil, List.length_cons, List.map_cons, List.replicate_succ, List.replicate_zero, List.set_cons_zero, List.take_succ_cons, List.take_zero, List.take_nil, List.length_append, List.map_append, List.cons_append, List.nil_append, List.drop_succ_cons, List.append_nil, Nat.reduceAdd, Nat.reduceSub, Nat.reduceMul, Nat.reduceDiv, Nat.reduceMod, Nat.reduceEqDiff, Nat.reduceLeDiff, Nat.reduceLT, Int.reduceLT, Int.reduceLE, Int.reduceEq, Int.reduceToNat, reduceIte, reduceCtorEq, Cell.enc]
      · have hrf : refW l c = x :: xs := by rw [refW, hx]; rfl
        simp only [go_sem, C23L0, Nat.reduceAdd, Nat.reduceSub, Nat.reduceMul, Nat.reduceDiv, Nat.reduceMod, Nat.reduceEqDiff, Nat.reduceLeDiff, Nat.reduceLT, Int.reduceLT, Int.reduceLE, Int.reduceEq, Int.reduceToNat, reduceIte, reduceCtorEq, List.length_map, hci, show ¬ (i : Int) < 0 by omega, List.length_nil, List.map_nil, List.length_cons, List.map_cons, List.replicate_succ, List.replicate_zero, List.set_cons_zero, List.take_succ_cons, List.take_zero, List.take_nil, List.length_append, List.map_append, List.cons_append, List.nil_append, List.drop_succ_cons, List.append_nil, hmx1, Cell.enc]
        rw [hrf]
        exact ⟨_, 1, rfl, rfl, rfl⟩
  · simp only [go_sem, C23, Nat.reduceAdd, Nat.reduceSub, Nat.reduceMul, Nat.reduceDiv, Nat.reduceMod, Nat.reduceEqDiff, Nat.reduceLeDiff, Nat.reduceLT, Int.reduceLT, Int.reduceLE, Int.reduceEq, Int.reduceToNat, reduceIte, reduceCtorEq, Cell.enc]
    refine CL.bool (f24_ok c) (fun h1 => ?_) (fun h1 => absurd hc h1)
    simp only [go_sem, Nat.reduceAdd, Nat.reduceSub, Nat.reduceMul, Nat.reduceDiv, Nat.reduceMod, Nat.reduceEqDiff, Nat.reduceLeDiff, Nat.reduceLT, Int.reduceLT, Int.reduceLE, Int.reduceEq, Int.reduceToNat, reduceIte, reduceCtorEq, List.length_nil, List.map_nil, List.length_cons, List.map_cons, List.replicate_succ, List.replicate_zero, List.set_cons_zero, List.take_succ_cons, List.take_zero, List.take_nil, List.length_append, List.map_append, List.cons_append, List.nil_append, List.drop_succ_cons, List.append_nil]
    refine LL.st good_E0 (fun i : Nat => l.length - i) (fun i => i ≤ l.length)
      (fun i => [(.z, .slice k off (l.map Cell.enc).length 5 ex cap), ((.o (.o .z)), .ptr (H.key 0) 0), ((.o (.i .z)), outV (H.key 1) 5 (runW c (l.take i)).1.length), ((.i (.i .z)), .bool (runW c (l.take i)).2), ((.o (.o (.o .z))), .int .i64 i)])
      (fun i => [.row true 5 [c.enc], outB 5 ((runW c (l.take i)).1.map Cell.enc)]) ?_ 0 (σ := [0, 1]) (Wk.mk' rfl (by decide) (by simp only [go_sem, List.length_map, hrho, List.take_zero, runW, List.foldl_nil, List.length_nil, List.map_nil, List.map_cons, Cell.enc, Nat.reduceAdd, Nat.reduceSub, Nat.reduceMul, Nat.reduceDiv, Nat.reduceMod, Nat.reduceEqDiff, Nat.reduceLeDiff, Nat.reduceLT, Int.reduceLT, Int.reduceLE, Int.reduceEq, Int.reduceToNat, reduceIte, reduceCtorEq]) (by simp only [go_sem, List.length_map, hrho, List.take_zero, runW, List.foldl_nil, List.length_nil, List.map_nil, List.map_cons, Cell.enc, Nat.reduceAdd, Nat.reduceSub, Nat.reduceMul, Nat.reduceDiv, Nat.reduceMod, Nat.reduceEqDiff, Nat.reduceLeDiff, Nat.reduceLT, Int.reduceLT, Int.reduceLE, Int.reduceEq, Int.reduceToNat, reduceIte, reduceCtorEq])) (by omega)
    rintro i hi
    have hlen := runW_len c l i hi
    by_cases hlt : i < l.length
    · obtain ⟨kk, r, ex', cap', wr, rows, hv, hk, hg, _, hat⟩ := hA.pick (j := i) (by simpa using hlt)
      have hrow := hat i (by simpa using hlt)
      have hgo := Heap.get_ext_old hok hg
      have hw := wrap_succ (n := i) (by omega)
      have hci : (i : Int) < (l.length : Int) := by omega
      have hsi : i + 1 ≤ l.length := by omega
      have hget : l[i]? = some l[i] := List.getElem?_eq_getElem hlt
      cases hv
      have hmx1 : (2 * (1 + 1) + 192) * 56 ≤ 281474976710656 := by decide
      rcases hx : runW c (l.take i) with ⟨_ | ⟨x, xs⟩, _ | _⟩
      · simp only [go_sem, C23L0, Nat.reduceAdd, Nat.reduceSub, Nat.reduceMul, Nat.reduceDiv, Nat.reduceMod, Nat.reduceEqDiff, Nat.reduceLeDiff, Nat.reduceLT, Int.reduceLT, Int.reduceLE, Int.reduceEq, Int.reduceToNat, reduceIte, reduceCtorEq, List.length_nil, List.map_nil, List.length_cons, List.map_cons, List.replicate_succ, List.replicate_zero, List.set_cons_zero, List.take_succ_cons, List.take_zero, List.take_nil, List.length_append, List.map_append, List.cons_append, List.nil_append, List.drop_succ_cons, List.append_nil, List.length_map, hw, hgo, hrow, hci, hsi, List.getElem?_eq_getElem hlt, Cell.enc, hmx1]
        refine ⟨fun h2 => ⟨fun h3 => ?_, fun h3 => ?_⟩, fun h2 => ⟨fun h3 => ?_, fun h3 => ?_⟩⟩
        · have h3' : ¬ l[i].key = c.key := h3
          have h2' : ¬ ltS l[i].key c.key := h2
          have hnew : runW c (l.take (i + 1)) = ([c, l[i]], true) := by rw [runW_next hget, hx]; simp [stepW, h3', h2']
          try simp only [go_sem, Nat.reduceAdd, Nat.reduceSub, Nat.reduceMul, Nat.reduceDiv, Nat.reduceMod, Nat.reduceEqDiff, Nat.reduceLeDiff, Nat.reduceLT, Int.reduceLT, Int.reduceLE, Int.reduceEq, Int.reduceToNat, reduceIte, reduceCtorEq, List.length_nil, List.map_nil, List.length_cons, List.map_cons, List.replicate_succ, List.replicate_zero, List.set_cons_zero, List.take_succ_cons, List.take_zero, List.take_nil, List.length_append, List.map_append, List.cons_append, List.nil_append, List.drop_succ_cons, List.append_nil, List.length_map, hw, hgo, hrow, hci, hsi, List.getElem?_eq_getElem hlt, Cell.enc, hmx1]
          refine ⟨i + 1, by show l.length - (i + 1) < l.length - i; omega, ?_, _, [0, 5], rfl, Wk.mk' rfl (by decide) (by simp only [go_sem, hrho, List.length_map, Cell.map_rens, Cell.enc, hnew, List.length_nil, List.map_nil, List.length_cons, List.map_cons, List.replicate_succ, List.replicate_zero, List.set_cons_zero, List.take_succ_cons, List.take_zero, List.take_nil, List.length_append, List.map_append, List.cons_append, List.nil_append, List.drop_succ_cons, List.append_nil, Nat.reduceAdd, Nat.reduceSub, Nat.reduceMul, Nat.reduceDiv, Nat.reduceMod, Nat.reduceEqDiff, Nat.reduceLeDiff, Nat.reduceLT, Int.reduceLT, Int.reduceLE, Int.reduceEq, Int.reduceToNat, reduceIte, reduceCtorEq]) (by simp only [go_sem, hrho, List.length_map, Cell.map_rens, Cell.enc, hnew, List.length_nil, List.map_nil, List.length_cons, List.map_cons, List.replicate_succ, List.replicate_zero, List.set_cons_zero, List.take_succ_cons, List.take_zero, List.take_nil, List.length_append, List.map_append, List.cons_append, List.nil_append, List.drop_succ_cons, List.append_nil, Nat.reduceAdd, Nat.reduceSub, Nat.reduceMul, Nat.reduceDiv, Nat.reduceMod, Nat.reduceEqDiff, Nat.reduceLeDiff, Nat.reduceLT, Int.reduceLT, Int.reduceLE, Int.reduceEq, Int.reduceToNat, reduceIte, reduceCtorEq])⟩
          omega
        · have h3' : l[i].key = c.key := Classical.not_not.1 h3
          have h2' : ¬ ltS l[i].key c.key := h2
          have hnew : runW c (l.take (i + 1)) = ([c], true) := by rw [runW_next hget, hx]; simp [stepW, h3', ltS_irrefl]
          try simp only [go_sem, Nat.reduceAdd, Nat.reduceSub, Nat.reduceMul, Nat.reduceDiv, Nat.reduceMod, Nat.reduceEqDiff, Nat.reduceLeDiff, Nat.reduceLT, Int.reduceLT, Int.reduceLE, Int.reduceEq, Int.reduceToNat, reduceIte, reduceCtorEq, List.length_nil, List.map_nil, List.length_cons, List.map_cons, List.replicate_succ, List.replicate_zero, List.set_cons_zero, List.take_succ_cons, List.take_zero, List.take_nil, List.length_append, List.map_append, List.cons_append, List.nil_append, List.drop_succ_cons, List.append_nil, List.length_map, hw, hgo, hrow, hci, hsi, List.getElem?_eq_getElem hlt, Cell.enc, hmx1]
          refine ⟨i + 1, by show l.length - (i + 1) < l.length - i; omega, ?_, _, [0, 3], rfl, Wk.mk' rfl (by decide) (by simp only [go_sem, hrho, List.length_map, Cell.map_rens, Cell.enc, hnew, List.length_nil, List.map_nil, List.length_cons, List.map_cons, List.replicate_succ, List.replicate_zero, List.set_cons_zero, List.take_succ_cons, List.take_zero, List.take_nil, List.length_append, List.map_append, List.cons_append, List.nil_append, List.drop_succ_cons, List.append_nil, Nat.reduceAdd, Nat.reduceSub, Nat.reduceMul, Nat.reduceDiv, Nat.reduceMod, Nat.reduceEqDiff, Nat.reduceLeDiff, Nat.reduceLT, Int.reduceLT, Int.reduceLE, Int.reduceEq, Int.reduceToNat, reduceIte, reduceCtorEq]) (by simp only [go_sem, hrho, List.length_map, Cell.map_rens, Cell.enc, hnew, List.length_nil, List.map_nil, List.length_cons, List.map_cons, List.replicate_succ, List.replicate_zero, List.set_cons_zero, List.take_succ_cons, List.take_zero, List.take_nil, List.length_append, List.map_append, List.cons_append, List.nil_append, List.drop_succ_cons, List.append_nil, Nat.reduceAdd, Nat.reduceSub, Nat.reduceMul, Nat.reduceDiv, Nat.reduceMod, Nat.reduceEqDiff, Nat.reduceLeDiff, Nat.reduceLT, Int.reduceLT, Int.reduceLE, Int.reduceEq, Int.reduceToNat, reduceIte, reduceCtorEq])⟩
          omega
        · have h3' : ¬ l[i].key = c.key := h3
          have h2' : ltS l[i].key c.key := Classical.not_not.1 h2
          have hnew : runW c (l.take (i + 1)) = ([l[i]], false) := by rw [runW_next hget, hx]; simp [stepW, h3', h2']
          try simp only [go_sem, Nat.reduceAdd, Nat.reduceSub, Nat.reduceMul, Nat.reduceDiv, Nat.reduceMod, Nat.reduceEqDiff, Nat.reduceLeDiff, Nat.reduceLT, Int.reduceLT, Int.reduceLE, Int.reduceEq, Int.reduceToNat, reduceIte, reduceCtorEq, List.length_nil, List.map_nil, List.length_cons, List.map_cons, List.replicate_succ, List.replicate_zero, List.set_cons_zero, List.take_succ_cons, List.take_zero, List.take_nil, List.length_append, List.map_append, List.cons_append, List.nil_append, List.drop_succ_cons, List.append_nil, List.length_map, hw, hgo, hrow, hci, hsi, List.getElem?_eq_getElem hlt, Cell.enc, hmx1]
          refine ⟨i + 1, by show l.length - (i + 1) < l.length - i; omega, ?_, _, [0, 3], rfl, Wk.mk' rfl (by decide) (by simp only [go_sem, hrho, List.length_map, Cell.map_rens, Cell.enc, hnew, List.length_nil, List.map_nil, List.length_cons, List.map_cons, List.replicate_succ, List.replicate_zero, List.set_cons_zero, List.take_succ_cons, List.take_zero, List.take_nil, List.length_append, List.map_append, List.cons_append, List.nil_append, List.drop_succ_cons, List.append_nil, Nat.reduceAdd, Nat.reduceSub, Nat.reduceMul, Nat.reduceDiv, Nat.reduceMod, Nat.reduceEqDiff, Nat.reduceLeDiff, Nat.reduceLT, Int.reduceLT, Int.reduceLE, Int.reduceEq, Int.reduceToNat, reduceIte, reduceCtorEq]) (by simp only [go_sem, hrho, List.length_map, Cell.map_rens, Cell.enc, hnew, List.length_nil, List.map_nil, List.length_cons, List.map_cons, List.replicate_succ, List.replicate_zero, List.set_cons_zero, List.take_succ_cons, List.take_zero, List.take_nil, List.length_append, List.map_append, List.cons_append, List.nil_append, List.drop_succ_cons, List.append_nil, Nat.reduceAdd, Nat.reduceSub, Nat.reduceMul, Nat.reduceDiv, Nat.reduceMod, Nat.reduceEqDiff, Nat.reduceLeDiff, Nat.reduceLT, Int.reduceLT, Int.reduceLE, Int.reduceEq, Int.reduceToNat, reduceIte, reduceCtorEq])⟩
          omega
        · have h3' : l[i].key = c.key := Classical.not_not.1 h3
          have h2' : ltS l[i].key c.key := Classical.not_not.1 h2
          exact absurd h2' (by rw [h3']; exact ltS_irrefl _)

      · simp only [go_sem, C23L0, Nat.reduceAdd, Nat.reduceSub, Nat.reduceMul, Nat.reduceDiv, Nat.reduceMod, Nat.reduceEqDiff, Nat.reduceLeDiff, Nat.reduceLT, Int.reduceLT, Int.reduceLE, Int.reduceEq, Int.reduceToNat, reduceIte, reduceCtorEq, List.length_nil, List.map_nil, List.length_cons, List.map_cons, List.replicate_succ, List.replicate_zero, List.set_cons_zero, List.take_succ_cons, List.take_zero, List.take_nil, List.length_append, List.map_append, List.cons_append, List.nil_append, List.drop_succ_cons, List.append_nil, List.length_map, hw, hgo, hrow, hci, hsi, List.getElem?_eq_getElem hlt, Cell.enc, hmx1]
        refine ⟨fun h3 => ?_, fun h3 => ?_⟩
        · have h3' : ¬ l[i].key = c.key := h3
          have hnew : runW c (l.take (i + 1)) = ([l[i]], true) := by rw [runW_next hget, hx]; simp [stepW, h3']
          try simp only [go_sem, Nat.reduceAdd, Nat.reduceSub, Nat.reduceMul, Nat.reduceDiv, Nat.reduceMod, Nat.reduceEqDiff, Nat.reduceLeDiff, Nat.reduceLT, Int.reduceLT, Int.reduceLE, Int.reduceEq, Int.reduceToNat, reduceIte, reduceCtorEq, List.length_nil, List.map_nil, List.length_cons, List.map_cons, List.replicate_succ, List.replicate_zero, List.set_cons_zero, List.take_succ_cons, List.take_zero, List.take_nil, List.length_append, List.map_append, List.cons_append, List.nil_append, List.drop_succ_cons, List.append_nil, List.length_map, hw, hgo, hrow, hci, hsi, List.getElem?_eq_getElem hlt, Cell.enc, hmx1]
          refine ⟨i + 1, by show l.length - (i + 1) < l.length - i; omega, ?_, _, [0, 3], rfl, Wk.mk' rfl (by decide) (by simp only [go_sem, hrho, List.length_map, Cell.map_rens, Cell.enc, hnew, List.length_nil, List.map_nil, List.length_cons, List.map_cons, List.replicate_succ, List.replicate_zero, List.set_cons_zero, List.take_succ_cons, List.take_zero, List.take_nil, List.length_append, List.map_append, List.cons_append, List.nil_append, List.drop_succ_cons, List.append_nil, Nat.reduceAdd, Nat.reduceSub, Nat.reduceMul, Nat.reduceDiv, Nat.reduceMod, Nat.reduceEqDiff, Nat.reduceLeDiff, Nat.reduceLT, Int.reduceLT, Int.reduceLE, Int.reduceEq, Int.reduceToNat, reduceIte, reduceCtorEq]) (by simp only [go_sem, hrho, List.length_map, Cell.map_rens, Cell.enc, hnew, List.length_nil, List.map_nil, List.length_cons, List.map_cons, List.replicate_succ, List.replicate_zero, List.set_cons_zero, List.take_succ_cons, List.take_zero, List.take_nil, List.length_append, List.map_append, List.cons_append, List.nil_append, List.drop_succ_cons, List.append_nil, Nat.reduceAdd, Nat.reduceSub, Nat.reduceMul, Nat.reduceDiv, Nat.reduceMod, Nat.reduceEqDiff, Nat.reduceLeDiff, Nat.reduceLT, Int.reduceLT, Int.reduceLE, Int.reduceEq, Int.reduceToNat, reduceIte, reduceCtorEq])⟩
          omega
        · have h3' : l[i].key = c.key := Classical.not_not.1 h3
          have hnew : runW c (l.take (i + 1)) = ([], true) := by rw [runW_next hget, hx]; simp [stepW, h3']
          try simp only [go_sem, Nat.reduceAdd, Nat.reduceSub, Nat.reduceMul, Nat.reduceDiv, Nat.reduceMod, Nat.reduceEqDiff, Nat.reduceLeDiff, Nat.reduceLT, Int.reduceLT, Int.reduceLE, Int.reduceEq, Int.reduceToNat, reduceIte, reduceCtorEq, List.length_nil, List.map_nil, List.length_cons, List.map_cons, List.replicate_succ, List.replicate_zero, List.set_cons_zero, List.take_succ_cons, List.take_zero, List.take_nil, List.length_append, List.map_append, List.cons_append, List.nil_append, List.drop_succ_cons, List.append_nil, List.length_map, hw, hgo, hrow, hci, hsi, List.getElem?_eq_getElem hlt, Cell.enc, hmx1]
          refine ⟨i + 1, by show l.length - (i + 1) < l.length - i; omega, ?_, _, [0, 1], rfl, Wk.mk' rfl (by decide) (by simp only [go_sem, hrho, List.length_map, Cell.map_rens, Cell.enc, hnew, List.length_nil, List.map_nil, List.length_cons, List.map_cons, List.replicate_succ, List.replicate_zero, List.set_cons_zero, List.take_succ_cons, List.take_zero, List.take_nil, List.length_append, List.map_append, List.cons_append, List.nil_append, List.drop_succ_cons, List.append_nil, Nat.reduceAdd, Nat.reduceSub, Nat.reduceMul, Nat.reduceDiv, Nat.reduceMod, Nat.reduceEqDiff, Nat.reduceLeDiff, Nat.reduceLT, Int.reduceLT, Int.reduceLE, Int.reduceEq, Int.reduceToNat, reduceIte, reduceCtorEq]) (by simp only [go_sem, hrho, List.length_map, Cell.map_rens, Cell.enc, hnew, List.length_nil, List.map_nil, List.length_cons, List.map_cons, List.replicate_succ, List.replicate_zero, List.set_cons_zero, List.take_succ_cons, List.take_zero, List.take_nil, List.length_append, List.map_append, List.cons_append, List.nil_append, List.drop_succ_cons, List.append_nil, Nat.reduceAdd, Nat.reduceSub, Nat.reduceMul, Nat.reduceDiv, Nat.reduceMod, Nat.reduceEqDiff, Nat.reduceLeDiff, Nat.reduceLT, Int.reduceLT, Int.reduceLE, Int.reduceEq, Int.reduceToNat, reduceIte, reduceCtorEq])⟩
          omega

      · have hfull : ¬ xs.length + 1 ≤ xs.length := by omega
        have hfull2 : ¬ xs.length + 1 + 1 ≤ xs.length + 1 := by omega
        have htk : List.take xs.length (xs.map Cell.enc) = xs.map Cell.enc := List.take_of_length_le (by simp)
        have htk2 : ∀ e : List AV, List.take (xs.length + 1) (xs.map Cell.enc ++ [e]) = xs.map Cell.enc ++ [e] := fun e => List.take_of_length_le (by simp)
        have hself : xs.length ≤ xs.length := Nat.le_refl _
        have hself2 : xs.length + 1 ≤ xs.length + 1 := Nat.le_refl _
        have h5 : xs.length < 4294967296 := by rw [hx] at hlen; simp only [List.length_cons] at hlen; omega
        have hmx : (2 * (xs.length + 1 + 1) + 192) * 56 ≤ 281474976710656 := mx56 h5
        have hmx2 : (2 * (xs.length + 1 + 1 + 1) + 192) * 56 ≤ 281474976710656 := mx56b h5
        simp only [go_sem, C23L0, Nat.reduceAdd, Nat.reduceSub, Nat.reduceMul, Nat.reduceDiv, Nat.reduceMod, Nat.reduceEqDiff, Nat.reduceLeDiff, Nat.reduceLT, Int.reduceLT, Int.reduceLE, Int.reduceEq, Int.reduceToNat, reduceIte, reduceCtorEq, List.length_nil, List.map_nil, List.length_cons, List.map_cons, List.replicate_succ, List.replicate_zero, List.set_cons_zero, List.take_succ_cons, List.take_zero, List.take_nil, List.length_append, List.map_append, List.cons_append, List.nil_append, List.drop_succ_cons, List.append_nil, List.length_map, hw, hgo, hrow, hci, hsi, List.getElem?_eq_getElem hlt, Cell.enc, hmx1, hfull, hfull2, htk, htk2, hself, hself2, hmx, hmx2]
        refine ⟨fun h2 => ⟨fun h3 => ?_, fun h3 => ?_⟩, fun h2 => ⟨fun h3 => ?_, fun h3 => ?_⟩⟩
        · have h3' : ¬ l[i].key = c.key := h3
          have h2' : ¬ ltS l[i].key c.key := h2
          have hnew : runW c (l.take (i + 1)) = (x :: (xs ++ [c] ++ [l[i]]), true) := by rw [runW_next hget, hx]; simp [stepW, h3', h2']
          try simp only [go_sem, Nat.reduceAdd, Nat.reduceSub, Nat.reduceMul, Nat.reduceDiv, Nat.reduceMod, Nat.reduceEqDiff, Nat.reduceLeDiff, Nat.reduceLT, Int.reduceLT, Int.reduceLE, Int.reduceEq, Int.reduceToNat, reduceIte, reduceCtorEq, List.length_nil, List.map_nil, List.length_cons, List.map_cons, List.replicate_succ, List.replicate_zero, List.set_cons_zero, List.take_succ_cons, List.take_zero, List.take_nil, List.length_append, List.map_append, List.cons_append, List.nil_append, List.drop_succ_cons, List.append_nil, List.length_map, hw, hgo, hrow, hci, hsi, List.getElem?_eq_getElem hlt, Cell.enc, hmx1, hfull, hfull2, htk, htk2, hself, hself2, hmx, hmx2]
          refine ⟨i + 1, by show l.length - (i + 1) < l.length - i; omega, ?_, _, [0, 5], rfl, Wk.mk' rfl (by decide) (by simp only [go_sem, hrho, List.length_map, Cell.map_rens, Cell.enc, hnew, List.length_nil, List.map_nil, List.length_cons, List.map_cons, List.replicate_succ, List.replicate_zero, List.set_cons_zero, List.take_succ_cons, List.take_zero, List.take_nil, List.length_append, List.map_append, List.cons_append, List.nil_append, List.drop_succ_cons, List.append_nil, Nat.reduceAdd, Nat.reduceSub, Nat.reduceMul, Nat.reduceDiv, Nat.reduceMod, Nat.reduceEqDiff, Nat.reduceLeDiff, Nat.reduceLT, Int.reduceLT, Int.reduceLE, Int.reduceEq, Int.reduceToNat, reduceIte, reduceCtorEq]) (by simp only [go_sem, hrho, List.length_map, Cell.map_rens, Cell.enc, hnew, List.length_nil, List.map_nil, List.length_cons, List.map_cons, List.replicate_succ, List.replicate_zero, List.set_cons_zero, List.take_succ_cons, List.take_zero, List.take_nil, List.length_append, List.map_append, List.cons_append, List.nil_append, List.drop_succ_cons, List.append_nil, Nat.reduceAdd, Nat.reduceSub, Nat.reduceMul, Nat.reduceDiv, Nat.reduceMod, Nat.reduceEqDiff, Nat.reduceLeDiff, Nat.reduceLT, Int.reduceLT, Int.reduceLE, Int.reduceEq, Int.reduceToNat, reduceIte, reduceCtorEq])⟩
          omega
        · have h3' : l[i].key = c.key := Classical.not_not.1 h3
          have h2' : ¬ ltS l[i].key c.key := h2
          have hnew : runW c (l.take (i + 1)) = (x :: (xs ++ [c]), true) := by rw [runW_next hget, hx]; simp [stepW, h3', ltS_irrefl]
          try simp only [go_sem, Nat.reduceAdd, Nat.reduceSub, Nat.reduceMul, Nat.reduceDiv, Nat.reduceMod, Nat.reduceEqDiff, Nat.reduceLeDiff, Nat.reduceLT, Int.reduceLT, Int.reduceLE, Int.reduceEq, Int.reduceToNat, reduceIte, reduceCtorEq, List.length_nil, List.map_nil, List.length_cons, List.map_cons, List.replicate_succ, List.replicate_zero, List.set_cons_zero, List.take_succ_cons, List.take_zero, List.take_nil, List.length_append, List.map_append, List.cons_append, List.nil_append, List.drop_succ_cons, List.append_nil, List.length_map, hw, hgo, hrow, hci, hsi, List.getElem?_eq_getElem hlt, Cell.enc, hmx1, hfull, hfull2, htk, htk2, hself, hself2, hmx, hmx2]
          refine ⟨i + 1, by show l.length - (i + 1) < l.length - i; omega, ?_, _, [0, 3], rfl, Wk.mk' rfl (by decide) (by simp only [go_sem, hrho, List.length_map, Cell.map_rens, Cell.enc, hnew, List.length_nil, List.map_nil, List.length_cons, List.map_cons, List.replicate_succ, List.replicate_zero, List.set_cons_zero, List.take_succ_cons, List.take_zero, List.take_nil, List.length_append, List.map_append, List.cons_append, List.nil_append, List.drop_succ_cons, List.append_nil, Nat.reduceAdd, Nat.reduceSub, Nat.reduceMul, Nat.reduceDiv, Nat.reduceMod, Nat.reduceEqDiff, Nat.reduceLeDiff, Nat.reduceLT, Int.reduceLT, Int.reduceLE, Int.reduceEq, Int.reduceToNat, reduceIte, reduceCtorEq]) (by simp only [go_sem, hrho, List.length_map, Cell.map_rens, Cell.enc, hnew, List.length_nil, List.map_nil, List.length_cons, List.map_cons, List.replicate_succ, List.replicate_zero, List.set_cons_zero, List.take_succ_cons, List.take_zero, List.take_nil, List.length_append, List.map_append, List.cons_append, List.nil_append, List.drop_succ_cons, List.append_nil, Nat.reduceAdd, Nat.reduceSub, Nat.reduceMul, Nat.reduceDiv, Nat.reduceMod, Nat.reduceEqDiff, Nat.reduceLeDiff, Nat.reduceLT, Int.reduceLT, Int.reduceLE, Int.reduceEq, Int.reduceToNat, reduceIte, reduceCtorEq])⟩
          omega
        · have h3' : ¬ l[i].key = c.key := h3
          have h2' : ltS l[i].key c.key := Classical.not_not.1 h2
          have hnew : runW c (l.take (i + 1)) = (x :: (xs ++ [l[i]]), false) := by rw [runW_next hget, hx]; simp [stepW, h3', h2']
          try simp only [go_sem, Nat.reduceAdd, Nat.reduceSub, Nat.reduceMul, Nat.reduceDiv, Nat.reduceMod, Nat.reduceEqDiff, Nat.reduceLeDiff, Nat.reduceLT, Int.reduceLT, Int.reduceLE, Int.reduceEq, Int.reduceToNat, reduceIte, reduceCtorEq, List.length_nil, List.map_nil, List.length_cons, List.map_cons, List.replicate_succ, List.replicate_zero, List.set_cons_zero, List.take_succ_cons, List.take_zero, List.take_nil, List.length_append, List.map_append, List.cons_append, List.nil_append, List.drop_succ_cons, List.append_nil, List.length_map, hw, hgo, hrow, hci, hsi, List.getElem?_eq_getElem hlt, Cell.enc, hmx1, hfull, hfull2, htk, htk2, hself, hself2, hmx, hmx2]
          refine ⟨i + 1, by show l.length - (i + 1) < l.length - i; omega, ?_, _, [0, 3], rfl, Wk.mk' rfl (by decide) (by simp only [go_sem, hrho, List.length_map, Cell.map_rens, Cell.enc, hnew, List.length_nil, List.map_nil, List.length_cons, List.map_cons, List.replicate_succ, List.replicate_zero, List.set_cons_zero, List.take_succ_cons, List.take_zero, List.take_nil, List.length_append, List.map_append, List.cons_append, List.nil_append, List.drop_succ_cons, List.append_nil, Nat.reduceAdd, Nat.reduceSub, Nat.reduceMul, Nat.reduceDiv, Nat.reduceMod, Nat.reduceEqDiff, Nat.reduceLeDiff, Nat.reduceLT, Int.reduceLT, Int.reduceLE, Int.reduceEq, Int.reduceToNat, reduceIte, reduceCtorEq]) (by simp only [go_sem, hrho, List.length_map, Cell.map_rens, Cell.enc, hnew, List.length_nil, List.map_nil, List.length_cons, List.map_cons, List.replicate_succ, List.replicate_zero, List.set_cons_zero, List.take_succ_cons, List.take_zero, List.take_nil, List.length_append, List.map_append, List.cons_append, List.nil_append, List.drop_succ_cons, List.append_nil, Nat.reduceAdd, Nat.reduceSub, Nat.reduceMul, Nat.reduceDiv, Nat.reduceMod, Nat.reduceEqDiff, Nat.reduceLeDiff, Nat.reduceLT, Int.reduceLT, Int.reduceLE, Int.reduceEq, Int.reduceToNat, reduceIte, reduceCtorEq])⟩
          omega
        · have h3' : l[i].key = c.key := Classical.not_not.1 h3
          have h2' : ltS l[i].key c.key := Classical.not_not.1 h2
          exact absurd h2' (by rw [h3']; exact ltS_irrefl _)

      · have hfull : ¬ xs.length + 1 ≤ xs.length := by omega
        have hfull2 : ¬ xs.length + 1 + 1 ≤ xs.length + 1 := by omega
        have htk : List.take xs.length (xs.map Cell.enc) = xs.map Cell.enc := List.take_of_length_le (by simp)
        have htk2 : ∀ e : List AV, List.take (xs.length + 1) (xs.map Cell.enc ++ [e]) = xs.map Cell.enc ++ [e] := fun e => List.take_of_length_le (by simp)
        have hself : xs.length ≤ xs.length := Nat.le_refl _
        have hself2 : xs.length + 1 ≤ xs.length + 1 := Nat.le_refl _
        have h5 : xs.length < 4294967296 := by rw [hx] at hlen; simp only [List.length_cons] at hlen; omega
        have hmx : (2 * (xs.length + 1 + 1) + 192) * 56 ≤ 281474976710656 := mx56 h5
        have hmx2 : (2 * (xs.length + 1 + 1 + 1) + 192) * 56 ≤ 281474976710656 := mx56b h5
        simp only [go_sem, C23L0, Nat.reduceAdd, Nat.reduceSub, Nat.reduceMul, Nat.reduceDiv, Nat.reduceMod, Nat.reduceEqDiff, Nat.reduceLeDiff, Nat.reduceLT, Int.reduceLT, Int.reduceLE, Int.reduceEq, Int.reduceToNat, reduceIte, reduceCtorEq, List.length_nil, List.map_nil, List.length_cons, List.map_cons, List.replicate_succ, List.replicate_zero, List.set_cons_zero, List.take_succ_cons, List.take_zero, List.take_nil, List.length_append, List.map_append, List.cons_append, List.nil_append, List.drop_succ_cons, List.append_nil, List.length_map, hw, hgo, hrow, hci, hsi, List.getElem?_eq_getElem hlt, Cell.enc, hmx1, hfull, hfull2, htk, htk2, hself, hself2, hmx, hmx2]
        refine ⟨fun h3 => ?_, fun h3 => ?_⟩
        · have h3' : ¬ l[i].key = c.key := h3
          have hnew : runW c (l.take (i + 1)) = (x :: (xs ++ [l[i]]), true) := by rw [runW_next hget, hx]; simp [stepW, h3']
          try simp only [go_sem, Nat.reduceAdd, Nat.reduceSub, Nat.reduceMul, Nat.reduceDiv, Nat.reduceMod, Nat.reduceEqDiff, Nat.reduceLeDiff, Nat.reduceLT, Int.reduceLT, Int.reduceLE, Int.reduceEq, Int.reduceToNat, reduceIte, reduceCtorEq, List.length_nil, List.map_nil, List.length_cons, List.map_cons, List.replicate_succ, List.replicate_zero, List.set_cons_zero, List.take_succ_cons, List.take_zero, List.take_nil, List.length_append, List.map_append, List.cons_append, List.nil_append, List.drop_succ_cons, List.append_nil, List.length_map, hw, hgo, hrow, hci, hsi, List.getElem?_eq_getElem hlt, Cell.enc, hmx1, hfull, hfull2, htk, htk2, hself, hself2, hmx, hmx2]
          refine ⟨i + 1, by show l.length - (i + 1) < l.length - i; omega, ?_, _, [0, 3], rfl, Wk.mk' rfl (by decide) (by simp only [go_sem, hrho, List.length_map, Cell.map_rens, Cell.enc, hnew, List.length_nil, List.map_nil, List.length_cons, List.map_cons, List.replicate_succ, List.replicate_zero, List.set_cons_zero, List.take_succ_cons, List.take_zero, List.take_nil, List.length_append, List.map_append, List.cons_append, List.nil_append, List.drop_succ_cons, List.append_nil, Nat.reduceAdd, Nat.reduceSub, Nat.reduceMul, Nat.reduceDiv, Nat.reduceMod, Nat.reduceEqDiff, Nat.reduceLeDiff, Nat.reduceLT, Int.reduceLT, Int.reduceLE, Int.reduceEq, Int.reduceToNat, reduceIte, reduceCtorEq]) (by simp only [go_sem, hrho, List.length_map, Cell.map_rens, Cell.enc, hnew, List.length_nil, List.map_nil, List.length_cons, List.map_cons, List.replicate_succ, List.replicate_zero, List.set_cons_zero, List.take_succ_cons, List.take_zero, List.take_nil, List.length_append, List.map_append, List.cons_append, List.nil_append, List.drop_succ_cons, List.append_nil, Nat.reduceAdd, Nat.reduceSub, Nat.reduceMul, Nat.reduceDiv, Nat.reduceMod, Nat.reduceEqDiff, Nat.reduceLeDiff, Nat.reduceLT, Int.reduceLT, Int.reduceLE, Int.reduceEq, Int.reduceToNat, reduceIte, reduceCtorEq])⟩
          omega
        · have h3' : l[i].key = c.key := Classical.not_not.1 h3
          have hnew : runW c (l.take (i + 1)) = (x :: xs, true) := by rw [runW_next hget, hx]; simp [stepW, h3']
          try simp only [go_sem, Nat.reduceAdd, Nat.reduceSub, Nat.reduceMul, Nat.reduceDiv, Nat.reduceMod, Nat.reduceEqDiff, Nat.reduceLeDiff, Nat.reduceLT, Int.reduceLT, Int.reduceLE, Int.reduceEq, Int.reduceToNat, reduceIte, reduceCtorEq, List.length_nil, List.map_nil, List.length_cons, List.map_cons, List.replicate_succ, List.replicate_zero, List.set_cons_zero, List.take_succ_cons, List.take_zero, List.take_nil, List.length_append, List.map_append, List.cons_append, List.nil_append, List.drop_succ_cons, List.append_nil, List.length_map, hw, hgo, hrow, hci, hsi, List.getElem?_eq_getElem hlt, Cell.enc, hmx1, hfull, hfull2, htk, htk2, hself, hself2, hmx, hmx2]
          refine ⟨i + 1, by show l.length - (i + 1) < l.length - i; omega, ?_, _, [0, 1], rfl, Wk.mk' rfl (by decide) (by simp only [go_sem, hrho, List.length_map, Cell.map_rens, Cell.enc, hnew, List.length_nil, List.map_nil, List.length_cons, List.map_cons, List.replicate_succ, List.replicate_zero, List.set_cons_zero, List.take_succ_cons, List.take_zero, List.take_nil, List.length_append, List.map_append, List.cons_append, List.nil_append, List.drop_succ_cons, List.append_nil, Nat.reduceAdd, Nat.reduceSub, Nat.reduceMul, Nat.reduceDiv, Nat.reduceMod, Nat.reduceEqDiff, Nat.reduceLeDiff, Nat.reduceLT, Int.reduceLT, Int.reduceLE, Int.reduceEq, Int.reduceToNat, reduceIte, reduceCtorEq]) (by simp only [go_sem, hrho, List.length_map, Cell.map_rens, Cell.enc, hnew, List.length_nil, List.map_nil, List.length_cons, List.map_cons, List.replicate_succ, List.replicate_zero, List.set_cons_zero, List.take_succ_cons, List.take_zero, List.take_nil, List.length_append, List.map_append, List.cons_append, List.nil_append, List.drop_succ_cons, List.append_nil, Nat.reduceAdd, Nat.reduceSub, Nat.reduceMul, Nat.reduceDiv, Nat.reduceMod, Nat.reduceEqDiff, Nat.reduceLeDiff, Nat.reduceLT, Int.reduceLT, Int.reduceLE, Int.reduceEq, Int.reduceToNat, reduceIte, reduceCtorEq])⟩
          omega

    · have hci : ¬ (i : Int) < (l.length : Int) := by omega
      rw [take_all (by omega)]
      have hmx1 : (2 * (1 + 1) + 192) * 56 ≤ 281474976710656 := by decide
      rw [take_all (by omega)] at hlen
      rcases hx : runW c l with ⟨_ | ⟨x, xs⟩, _ | _⟩
      · have hrf : refW l c = [c] := by rw [refW, hx]; rfl
        simp only [go_sem, C23L0, Nat.reduceAdd, Nat.reduceSub, Nat.reduceMul, Nat.reduceDiv, Nat.reduceMod, Nat.reduceEqDiff, Nat.reduceLeDiff, Nat.reduceLT, Int.reduceLT, Int.reduceLE, Int.reduceEq, Int.reduceToNat, reduceIte, reduceCtorEq, List.length_map, hci, List.length_nil, List.map_nil, List.length_cons, List.map_cons, List.replicate_succ, List.replicate_zero, List.set_cons_zero, List.take_succ_cons, List.take_zero, List.take_nil, List.length_append, List.map_append, List.cons_append, List.nil_append, List.drop_succ_cons, List.append_nil, hmx1, Cell.enc]
        rw [hrf]
        exact ⟨_, 3, rfl, rfl, rfl⟩
      · have hrf : refW l c = [] := by rw [refW, hx]; rfl
        simp only [go_sem, C23L0, Nat.reduceAdd, Nat.reduceSub, Nat.reduceMul, Nat.reduceDiv, Nat.reduceMod, Nat.reduceEqDiff, Nat.reduceLeDiff, Nat.reduceLT, Int.reduceLT, Int.reduceLE, Int.reduceEq, Int.reduceToNat, reduceIte, reduceCtorEq, List.length_map, hci, List.length_nil, List.map_nil, List.length_cons, List.map_cons, List.replicate_succ, List.replicate_zero, List.set_cons_zero, List.take_succ_cons, List.take_zero, List.take_nil, List.length_append, List.map_append, List.cons_append, List.nil_append, List.drop_succ_cons, List.append_nil, hmx1, Cell.enc]
        rw [hrf]
        exact ⟨_, 1, rfl, rfl, rfl⟩
      · have hrf : refW l c = x :: (xs ++ [c]) := by rw [refW, hx]; rfl
        have hfull : ¬ xs.length + 1 ≤ xs.length := by omega
        have hfull2 : ¬ xs.length + 1 + 1 ≤ xs.length + 1 := by omega
        have htk : List.take xs.length (xs.map Cell.enc) = xs.map Cell.enc := List.take_of_length_le (by simp)
        have htk2 : ∀ e : List AV, List.take (xs.length + 1) (xs.map Cell.enc ++ [e]) = xs.map Cell.enc ++ [e] := fun e => List.take_of_length_le (by simp)
        have hself : xs.length ≤ xs.length := Nat.le_refl _
        have hself2 : xs.length + 1 ≤ xs.length + 1 := Nat.le_refl _
        have h5 : xs.length < 4294967296 := by rw [hx] at hlen; simp only [List.length_cons] at hlen; omega
        have hmx : (2 * (xs.length + 1 + 1) + 192) * 56 ≤ 281474976710656 := mx56 h5
        have hmx2 : (2 * (xs.length + 1 + 1 + 1) + 192) * 56 ≤ 281474976710656 := mx56b h5
        simp only [go_sem, C23L0, Nat.reduceAdd, Nat.reduceSub, Nat.reduceMul, Nat.reduceDiv, Nat.reduceMod, Nat.reduceEqDiff, Nat.reduceLeDiff, Nat.reduceLT, Int.reduceLT, Int.reduceLE, Int.reduceEq, Int.reduceToNat, reduceIte, reduceCtorEq, List.length_map, hci, List.length_nil, List.map_nil, List.length_cons, List.map_cons, List.replicate_succ, List.replicate_zero, List.set_cons_zero, List.take_succ_cons, List.take_zero, List.take_nil, List.length_append, List.map_append, List.cons_append, List.nil_append, List.drop_succ_cons, List.append_nil, hmx1, hfull, htk, hself, hmx, Cell.enc]
        rw [hrf]
        refine ⟨_, 3, ?_, rfl, ?_⟩
        · simp only [go_sem, List.length_nil, List.map_nil, List.length_cons, List.map_cons, List.replicate_succ, List.replicate_zero, List.set_cons_zero, List.take_succ_cons, List.take_zero, List.take_nil, List.length_append, List.map_append, List.cons_append, List.nil_append, List.drop_succ_cons, List.append_nil, Nat.reduceAdd, Nat.reduceSub, Nat.reduceMul, Nat.reduceDiv, Nat.reduceMod, Nat.reduceEqDiff, Nat.reduceLeDiff, Nat.reduceLT, Int.reduceLT, Int.reduceLE, Int.reduceEq, Int.reduceToNat, reduceIte, reduceCtorEq]
        · simp only [go_sem, List.length_nil, List.map_nil, List.length_cons, List.map_cons, List.replicate_succ, List.replicate_zero, List.set_cons_zero, List.take_succ_cons, List.take_zero, List.take_nil, List.length_append, List.map_append, List.cons_append, List.nil_append, List.drop_succ_cons, List.append_nil, Nat.reduceAdd, Nat.reduceSub, Nat.reduceMul, Nat.reduceDiv, Nat.reduceMod, Nat.reduceEqDiff, Nat.reduceLeDiff, Nat.reduceLT, Int.reduceLT, Int.reduceLE, Int.reduceEq, Int.reduceToNat, reduceIte, reduceCtorEq, Cell.enc]
      · have hrf : refW l c = x :: xs := by rw [refW, hx]; rfl
        simp only [go_sem, C23L0, Nat.reduceAdd, Nat.reduceSub, Nat.reduceMul, Nat.reduceDiv, Nat.reduceMod, Nat.reduceEqDiff, Nat.reduceLeDiff, Nat.reduceLT, Int.reduceLT, Int.reduceLE, Int.reduceEq, Int.reduceToNat, reduceIte, reduceCtorEq, List.length_map, hci, List.length_nil, List.map_nil, List.length_cons, List.map_cons, List.replicate_succ, List.replicate_zero, List.set_cons_zero, List.take_succ_cons, List.take_zero, List.take_nil, List.length_append, List.map_append, List.cons_append, List.nil_append, List.drop_succ_cons, List.append_nil, hmx1, Cell.enc]
        rw [hrf]
        exact ⟨_, 1, rfl, rfl, rfl⟩

end Go.Proofs
