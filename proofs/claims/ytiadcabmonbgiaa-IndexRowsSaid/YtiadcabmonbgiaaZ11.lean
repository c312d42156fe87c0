/- index: the reference way to put a cell in its place, walked. -/
import Derived.Test.YtiadcabmonbgiaaZ10
set_option linter.all false
set_option maxRecDepth 100000
namespace Go.Proofs
open Go Go.Ev
variable {H : Heap}

theorem f22_ok {v : AV} {l : List Cell} (hA : Arr H 5 v (l.map Cell.enc)) (hl : l.length < 4294967295) (c : Cell) :
    FnOk Try.prog 22 [v, .agg c.enc] H fun r G => r = frV v H.nx 5 (withC l c).length ∧ G = H.ext (frL v 5 ((withC l c).map Cell.enc)) := by
  rcases hA.forms with ⟨rfl, hnil⟩ | ⟨k, off, ex, cap, rfl, _⟩
  · obtain rfl : l = [] := List.map_eq_nil_iff.1 hnil
    exact f22_nil
  · rcases Nat.eq_zero_or_pos l.length with h0 | h0
    · obtain rfl := List.length_eq_zero_iff.1 h0
      exact f22_zero
    · exact f22_arr hA h0 hl
noncomputable def stepW (c : Cell) (s : List Cell × Bool) (d : Cell) : List Cell × Bool :=
  let s' := if s.2 = false ∧ ¬ ltS d.key c.key then (s.1 ++ [c], true) else s
  (if d.key = c.key then s'.1 else s'.1 ++ [d], s'.2)
noncomputable def runW (c : Cell) (l : List Cell) : List Cell × Bool := l.foldl (stepW c) ([], false)
noncomputable def refW (l : List Cell) (c : Cell) : List Cell := if (runW c l).2 then (runW c l).1 else (runW c l).1 ++ [c]
theorem runW_next {c d : Cell} {l : List Cell} {i : Nat} (h : l[i]? = some d) : runW c (l.take (i + 1)) = stepW c (runW c (l.take i)) d := by
  rw [take_next h, runW, List.foldl_append]; rfl
theorem stepW_len (c d : Cell) (s : List Cell × Bool) : (stepW c s d).1.length + (if (stepW c s d).2 then 0 else 1) ≤ s.1.length + (if s.2 then 0 else 1) + 1 := by
  unfold stepW
  rcases s with ⟨a, b⟩
  by_cases h1 : b = false ∧ ¬ ltS d.key c.key
  · simp only [h1, and_self, if_true]
    split <;> simp <;> (obtain ⟨rfl, _⟩ := h1; simp) <;> omega
  · simp only [if_neg h1]
    split <;> simp <;> omega
theorem runW_len (c : Cell) (l : List Cell) (i : Nat) (hi : i ≤ l.length) : (runW c (l.take i)).1.length + (if (runW c (l.take i)).2 then 0 else 1) ≤ i + 1 := by
  induction i with
  | zero => simp [runW]
  | succ i ih =>
    have hget : l[i]? = some l[i] := List.getElem?_eq_getElem (by omega)
    rw [runW_next hget]
    have := stepW_len c l[i] (runW c (l.take i))
    have := ih (by omega)
    omega

theorem mx56 {n : Nat} (h : n < 4294967296) : (2 * (n + 1 + 1) + 192) * 56 ≤ 281474976710656 := by omega
theorem mx56b {n : Nat} (h : n < 4294967296) : (2 * (n + 1 + 1 + 1) + 192) * 56 ≤ 281474976710656 := by omega
theorem f23_no {v : AV} {l : List Cell} (hA : Arr H 5 v (l.map Cell.enc)) {c : Cell} (hc : ¬ cellIs c) :
    FnOk Try.prog 23 [v, .agg c.enc] H fun r G => r = v ∧ G = H := by
  refine FnOk.dropOld (R := fun r => r = v) ?_ ?_
  · refine FnOk.of_WW Try.func23 rfl C23ok R23ok E0 good_E0 ?_
    simp only [go_sem, C23, Nat.reduceAdd, Nat.reduceSub, Nat.reduceMul, Nat.reduceDiv, Nat.reduceMod, Nat.reduceEqDiff, Nat.reduceLeDiff, Nat.reduceLT, Int.reduceLT, Int.reduceLE, Int.reduceEq, Int.reduceToNat, reduceIte, reduceCtorEq, Cell.enc]
    refine CL.bool (f24_ok c) (fun h1 => absurd h1 hc) (fun h1 => ?_)
    simp only [go_sem, Nat.reduceAdd, Nat.reduceSub, Nat.reduceMul, Nat.reduceDiv, Nat.reduceMod, Nat.reduceEqDiff, Nat.reduceLeDiff, Nat.reduceLT, Int.reduceLT, Int.reduceLE, Int.reduceEq, Int.reduceToNat, reduceIte, reduceCtorEq, List.length_nil, List.map_nil, List.length_cons, List.map_cons, List.replicate_succ, List.replicate_zero, List.set_cons_zero, List.take_succ_cons, List.take_zero, List.take_nil, List.length_append, List.map_append, List.cons_append, List.nil_append, List.drop_succ_cons, List.append_nil]
    exact ⟨_, rfl⟩
  · rintro _ rfl top σ
    rcases hA.forms with ⟨rfl, hnil⟩ | ⟨k, off, ex, cap, rfl, hrho⟩
    · rw [AV.ren]
    · rw [AV.ren, hrho]
theorem f23_yes {v : AV} {l : List Cell} (hA : Arr H 5 v (l.map Cell.enc)) (hl : l.length < 4294967295) {c : Cell} (hc : cellIs c) :
    FnOk Try.prog 23 [v, .agg c.enc] H fun r G => r = outV H.nx 5 (refW l c).length ∧ G = H.ext (outL 5 ((refW l c).map Cell.enc)) := by
  refine FnOk.assume fun hok => ?_
  rw [show (refW l c).length = ((refW l c).map Cell.enc).length from (List.length_map ..).symm]
  refine FnOk.dropV (Cell.map_rens · _) ?_
  rw [List.length_map]
  refine FnOk.of_WW Try.func23 rfl C23ok R23ok E0 good_E0 ?_
  rcases hA.forms with ⟨rfl, hnil⟩ | ⟨k, off, ex, cap, rfl, hrho⟩
  · have hn0 : l.length = 0 := by simpa using hnil
    simp only [go_sem, C23, Nat.reduceAdd, Nat.reduceSub, Nat.reduceMul, Nat.reduceDiv, Nat.reduceMod, Nat.reduceEqDiff, Nat.reduceLeDiff, Nat.reduceLT, Int.reduceLT, Int.reduceLE, Int.reduceEq, Int.reduceToNat, reduceIte, reduceCtorEq, Cell.enc]
    refine CL.bool (f24_ok c) (fun h1 => ?_) (fun h1 => absurd hc h1)
    simp only [go_sem, Nat.reduceAdd, Nat.reduceSub, Nat.reduceMul, Nat.reduceDiv, Nat.reduceMod, Nat.reduceEqDiff, Nat.reduceLeDiff, Nat.reduceLT, Int.reduceLT, Int.reduceLE, Int.reduceEq, Int.reduceToNat, reduceIte, reduceCtorEq, List.length_nil, List.map_nil, List.length_cons, List.map_cons, List.replicate_succ, List.replicate_zero, List.set_cons_zero, List.take_succ_cons, List.take_zero, List.take_nil, List.length_append, List.map_append, List.cons_append, List.nil_append, List.drop_succ_cons, List.append_nil]
    refine LL.st good_E0 (fun i : Nat => l.length - i) (fun i => i ≤ l.length)
      (fun i => [(.z, .nils), ((.o (.o .z)), .ptr (H.key 0) 0), ((.o (.i .z)), outV (H.key 1) 5 (runW c (l.take i)).1.length), ((.i (.i .z)), .bool (runW c (l.take i)).2), ((.o (.o (.o .z))), .int .i64 i)])
      (fun i => [.row true 5 [c.enc], outB 5 ((runW c (l.take i)).1.map Cell.enc)]) ?_ 0 (σ := [0, 1]) (Wk.mk' rfl (by decide) (by simp only [go_sem, List.length_map, hn0, List.take_zero, runW, List.foldl_nil, List.length_nil, List.map_nil, List.map_cons, Cell.enc, Nat.reduceAdd, Nat.reduceSub, Nat.reduceMul, Nat.reduceDiv, Nat.reduceMod, Nat.reduceEqDiff, Nat.reduceLeDiff, Nat.reduceLT, Int.reduceLT, Int.reduceLE, Int.reduceEq, Int.reduceToNat, reduceIte, reduceCtorEq]) (by simp only [go_sem, List.length_map, hn0, List.take_zero, runW, List.foldl_nil, List.length_nil, List.map_nil, List.map_cons, Cell.enc, Nat.reduceAdd, Nat.reduceSub, Nat.reduceMul, Nat.reduceDiv, Nat.reduceMod, Nat.reduceEqDiff, Nat.reduceLeDiff, Nat.reduceLT, Int.reduceLT, Int.reduceLE, Int.reduceEq, Int.reduceToNat, reduceIte, reduceCtorEq])) (by omega)
    rintro i hi
    have hlen := runW_len c l i hi
    by_cases hlt : i < l.length
    · exact absurd hlt (by omega)
    · have hci : ¬ (i : Int) < (l.length : Int) := by omega
      rw [take_all (by omega)]
      have hmx1 : (2 * (1 + 1) + 192) * 56 ≤ 281474976710656 := by decide
      rw [take_all (by omega)] at hlen
      rcases hx : runW c l with ⟨_ | ⟨x, xs⟩, _ | _⟩
      · have hrf : refW l c = [c] := by rw [refW, hx]; rfl
        simp only [go_sem, C23L0, Nat.reduceAdd, Nat.reduceSub, Nat.reduceMul, Nat.reduceDiv, Nat.reduceMod, Nat.reduceEqDiff, Nat.reduceLeDiff, Nat.reduceLT, Int.reduceLT, Int.reduceLE, Int.reduceEq, Int.reduceToNat, reduceIte, reduceCtorEq, List.length_map, hci, show ¬ (i : Int) < 0 by omega, List.length_nil, List.map_nil, List.length_cons, List.map_cons, List.replicate_succ, List.replicate_zero, List.set_cons_zero, List.take_succ_cons, List.take_zero, List.take_nil, List.length_append, List.map_append, List.cons_append, List.nil_append, List.drop_succ_cons, List.append_nil, hmx1, Cell.enc]
        rw [hrf]
        exact ⟨_, 3, rfl, rfl, rfl⟩
      · have hrf : refW l c = [] := by rw [refW, hx]; rfl
        simp only [go_sem, C23L0, Nat.reduceAdd, Nat.reduceSub, Nat.reduceMul, Nat.reduceDiv, Nat.reduceMod, Nat.reduceEqDiff, Nat.reduceLeDiff, Nat.reduceLT, Int.reduceLT, Int.reduceLE, Int.reduceEq, Int.reduceToNat, reduceIte, reduceCtorEq, List.length_map, hci, show ¬ (i : Int) < 0 by omega, List.length_nil, List.map_nil, List.length_cons, List.map_cons, List.replicate_succ, List.replicate_zero, List.set_cons_zero, List.take_succ_cons, List.take_zero, List.take_nil, List.length_append, List.map_append, List.cons_append, List.nil_append, List.drop_succ_cons, List.append_nil, hmx1, Cell.enc]
        rw [hrf]
        exact ⟨_, 1, rfl, rfl, rfl⟩
      · have hrf : refW l c = x :: (xs ++ [c]) := by rw [refW, hx]; rfl
        have hfull : ¬ xs.length + 1 ≤ xs.length := by omega
        have hfull2 : ¬ xs.length + 1 + 1 ≤ xs.length + 1 := by omega
        have htk : List.take xs.length (xs.map Cell.enc) = xs.map Cell.enc := List.take_of_length_le (by simp)
        have htk2 : ∀ e : List AV, List.take (xs.length + 1) (xs.map Cell.enc ++ [e]) = xs.map Cell.enc ++ [e] := fun e => List.take_of_length_le (by simp)
        have hself : xs.length ≤ xs.length := Nat.le_refl _
        have hself2 : xs.length + 1 ≤ xs.length + 1 := Nat.le_refl _
        have h5 : xs.length < 4294967296 := by rw [hx] at hlen; simp only [List.length_cons] at hlen; omega
        have hmx : (2 * (xs.length + 1 + 1) + 192) * 56 ≤ 281474976710656 := mx56 h5
        have hmx2 : (2 * (xs.length + 1 + 1 + 1) + 192) * 56 ≤ 281474976710656 := mx56b h5
        simp only [go_sem, C23L0, Nat.reduceAdd, Nat.reduceSub, Nat.reduceMul, Nat.reduceDiv, Nat.reduceMod, Nat.reduceEqDiff, Nat.reduceLeDiff, Nat.reduceLT, Int.reduceLT, Int.reduceLE, Int.reduceEq, Int.reduceToNat, reduceIte, reduceCtorEq, List.length_map, hci, show ¬ (i : Int) < 0 by omega, List.length_nil, List.map_nil, List.length_cons, List.map_cons, List.replicate_succ, List.replicate_zero, List.set_cons_zero, List.take_succ_cons, List.take_zero, List.take_nil, List.length_append, List.map_append, List.cons_append, List.nil_append, List.drop_succ_cons, List.append_nil, hmx1, hfull, htk, hself, hmx, Cell.enc]
        rw [hrf]
        refine ⟨_, 3, ?_, rfl, ?_⟩
        · simp only [go_sem, List.length_nil, List.map_nil, List.length_cons, List.map_cons, List.replicate_succ, List.replicate_zero, List.set_cons_zero, List.take_succ_cons, List.take_zero, List.take_nil, List.length_append, List.map_append, List.cons_append, List.nil_append, List.drop_succ_cons, List.append_nil, Nat.reduceAdd, Nat.reduceSub, Nat.reduceMul, Nat.reduceDiv, Nat.reduceMod, Nat.reduceEqDiff, Nat.reduceLeDiff, Nat.reduceLT, Int.reduceLT, Int.reduceLE, Int.reduceEq, Int.reduceToNat, reduceIte, reduceCtorEq]
        · simp only [go_sem, List.length_nil, List.map_nil, List.length_cons, List.map_cons, List.replicate_succ, List.replicate_zero, List.set_cons_zero, List.take_succ_cons, List.take_zero, List.take_nil, List.length_append, List.map_append, List.cons_append, List.nil_append, List.drop_succ_cons, List.append_nil, Nat.reduceAdd, Nat.reduceSub, Nat.reduceMul, Nat.reduceDiv, Nat.reduceMod, Nat.reduceEqDiff, Nat.reduceLeDiff, Nat.reduceLT, Int.reduceLT, Int.reduceLE, Int.reduceEq, Int.reduceToNat, reduceIte, reduceCtorEq, Cell.enc]
      · have hrf : refW l c = x :: xs := by rw [refW, hx]; rfl
        simp only [go_sem, C23L0, Nat.reduceAdd, Nat.reduceSub, Nat.reduceMul, Nat.reduceDiv, Nat.reduceMod, Nat.reduceEqDiff, Nat.reduceLeDiff, Nat.reduceLT, Int.reduceLT, Int.reduceLE, Int.reduceEq, Int.reduceToNat, reduceIte, reduceCtorEq, List.length_map, hci, show ¬ (i : Int) < 0 by omega, List.length_nil, List.map_nil, List.length_cons, List.map_cons, List.replicate_succ, List.replicate_zero, List.set_cons_zero, List.take_succ_cons, List.take_zero, List.take_nil, List.length_append, List.map_append, List.cons_append, List.nil_append, List.drop_succ_cons, List.append_nil, hmx1, Cell.enc]
        rw [hrf]
        exact ⟨_, 1, rfl, rfl, rfl⟩
  · simp only [go_sem, C23, Nat.reduceAdd, Nat.reduceSub, Nat.reduceMul, Nat.reduceDiv, Nat.reduceMod, Nat.reduceEqDiff, Nat.reduceLeDiff, Nat.reduceLT, Int.reduceLT, Int.reduceLE, Int.reduceEq, Int.reduceToNat, reduceIte, reduceCtorEq, Cell.enc]
    refine CL.bool (f24_ok c) (fun h1 => ?_) (fun h1 => absurd hc h1)
    simp only [go_sem, Nat.reduceAdd, Nat.reduceSub, Nat.reduceMul, Nat.reduceDiv, Nat.reduceMod, Nat.reduceEqDiff, Nat.reduceLeDiff, Nat.reduceLT, Int.reduceLT, Int.reduceLE, Int.reduceEq, Int.reduceToNat, reduceIte, reduceCtorEq, List.length_nil, List.map_nil, List.length_cons, List.map_cons, List.replicate_succ, List.replicate_zero, List.set_cons_zero, List.take_succ_cons, List.take_zero, List.take_nil, List.length_append, List.map_append, List.cons_append, List.nil_append, List.drop_succ_cons, List.append_nil]
    refine LL.st good_E0 (fun i : Nat => l.length - i) (fun i => i ≤ l.length)
      (fun i => [(.z, .slice k off (l.map Cell.enc).length 5 ex cap), ((.o (.o .z)), .ptr (H.key 0) 0), ((.o (.i .z)), outV (H.key 1) 5 (runW c (l.take i)).1.length), ((.i (.i .z)), .bool (runW c (l.take i)).2), ((.o (.o (.o .z))), .int .i64 i)])
      (fun i => [.row true 5 [c.enc], outB 5 ((runW c (l.take i)).1.map Cell.enc)]) ?_ 0 (σ := [0, 1]) (Wk.mk' rfl (by decide) (by simp only [go_sem, List.length_map, hrho, List.take_zero, runW, List.foldl_nil, List.length_nil, List.map_nil, List.map_cons, Cell.enc, Nat.reduceAdd, Nat.reduceSub, Nat.reduceMul, Nat.reduceDiv, Nat.reduceMod, Nat.reduceEqDiff, Nat.reduceLeDiff, Nat.reduceLT, Int.reduceLT, Int.reduceLE, Int.reduceEq, Int.reduceToNat, reduceIte, reduceCtorEq]) (by simp only [go_sem, List.length_map, hrho, List.take_zero, runW, List.foldl_nil, List.length_nil, List.map_nil, List.map_cons, Cell.enc, Nat.reduceAdd, Nat.reduceSub, Nat.reduceMul, Nat.reduceDiv, Nat.reduceMod, Nat.reduceEqDiff, Nat.reduceLeDiff, Nat.reduceLT, Int.reduceLT, Int.reduceLE, Int.reduceEq, Int.reduceToNat, reduceIte, reduceCtorEq])) (by omega)
    rintro i hi
    have hlen := runW_len c l i hi
    by_cases hlt : i < l.length
    · obtain ⟨kk, r, ex', cap', wr, rows, hv, hk, hg, _, hat⟩ := hA.pick (j := i) (by simpa using hlt)
      have hrow := hat i (by simpa using hlt)
      have hgo := Heap.get_ext_old hok hg
      have hw := wrap_succ (n := i) (by omega)
      have hci : (i : Int) < (l.length : Int) := by omega
      have hsi : i + 1 ≤ l.length := by omega
      have hget : l[i]? = some l[i] := List.getElem?_eq_getElem hlt
      cases hv
      have hmx1 : (2 * (1 + 1) + 192) * 56 ≤ 281474976710656 := by decide
      rcases hx : runW c (l.take i) with ⟨_ | ⟨x, xs⟩, _ | _⟩
      · simp only [go_sem, C23L0, Nat.reduceAdd, Nat.reduceSub, Nat.reduceMul, Nat.reduceDiv, Nat.reduceMod, Nat.reduceEqDiff, Nat.reduceLeDiff, Nat.reduceLT, Int.reduceLT, Int.reduceLE, Int.reduceEq, Int.reduceToNat, reduceIte, reduceCtorEq, List.length_nil, List.map_nil, List.length_cons, List.map_cons, List.replicate_succ, List.replicate_zero, List.set_cons_zero, List.take_succ_cons, List.take_zero, List.take_nil, List.length_append, List.map_append, List.cons_append, List.nil_append, List.drop_succ_cons, List.append_nil, List.length_map, hw, hgo, hrow, hci, hsi, List.getElem?_eq_getElem hlt, Cell.enc, hmx1]
        refine ⟨fun h2 => ⟨fun h3 => ?_, fun h3 => ?_⟩, fun h2 => ⟨fun h3 => ?_, fun h3 => ?_⟩⟩
        · have h3' : ¬ l[i].key = c.key := h3
          have h2' : ¬ ltS l[i].key c.key := h2
          have hnew : runW c (l.take (i + 1)) = ([c, l[i]], true) := by rw [runW_next hget, hx]; simp [stepW, h3', h2']
          try simp only [go_sem, Nat.reduceAdd, Nat.reduceSub, Nat.reduceMul, Nat.reduceDiv, Nat.reduceMod, Nat.reduceEqDiff, Nat.reduceLeDiff, Nat.reduceLT, Int.reduceLT, Int.reduceLE, Int.reduceEq, Int.reduceToNat, reduceIte, reduceCtorEq, List.length_nil, List.map_nil, List.length_cons, List.map_cons, List.replicate_succ, List.replicate_zero, List.set_cons_zero, List.take_succ_cons, List.take_zero, List.take_nil, List.length_append, List.map_append, List.cons_append, List.nil_append, List.drop_succ_cons, List.append_nil, List.length_map, hw, hgo, hrow, hci, hsi, List.getElem?_eq_getElem hlt, Cell.enc, hmx1]
          refine ⟨i + 1, by show l.length - (i + 1) < l.length - i; omega, ?_, _, [0, 5], rfl, Wk.mk' rfl (by decide) (by simp only [go_sem, hrho, List.length_map, Cell.map_rens, Cell.enc, hnew, List.length_nil, List.map_nil, List.length_cons, List.map_cons, List.replicate_succ, List.replicate_zero, List.set_cons_zero, List.take_succ_cons, List.take_zero, List.take_nil, List.length_append, List.map_append, List.cons_append, List.nil_append, List.drop_succ_cons, List.append_nil, Nat.reduceAdd, Nat.reduceSub, Nat.reduceMul, Nat.reduceDiv, Nat.reduceMod, Nat.reduceEqDiff, Nat.reduceLeDiff, Nat.reduceLT, Int.reduceLT, Int.reduceLE, Int.reduceEq, Int.reduceToNat, reduceIte, reduceCtorEq]) (by simp only [go_sem, hrho, List.length_map, Cell.map_rens, Cell.enc, hnew, List.length_nil, List.map_nil, List.length_cons, List.map_cons, List.replicate_succ, List.replicate_zero, List.set_cons_zero, List.take_succ_cons, List.take_zero, List.take_nil, List.length_append, List.map_append, List.cons_append, List.nil_append, List.drop_succ_cons, List.append_nil, Nat.reduceAdd, Nat.reduceSub, Nat.reduceMul, Nat.reduceDiv, Nat.reduceMod, Nat.reduceEqDiff, Nat.reduceLeDiff, Nat.reduceLT, Int.reduceLT, Int.reduceLE, Int.reduceEq, Int.reduceToNat, reduceIte, reduceCtorEq])⟩
          omega
        · have h3' : l[i].key = c.key := Classical.not_not.1 h3
          have h2' : ¬ ltS l[i].key c.key := h2
          have hnew : runW c (l.take (i + 1)) = ([c], true) := by rw [runW_next hget, hx]; simp [stepW, h3', ltS_irrefl]
          try simp only [go_sem, Nat.reduceAdd, Nat.reduceSub, Nat.reduceMul, Nat.reduceDiv, Nat.reduceMod, Nat.reduceEqDiff, Nat.reduceLeDiff, Nat.reduceLT, Int.reduceLT, Int.reduceLE, Int.reduceEq, Int.reduceToNat, reduceIte, reduceCtorEq, List.length_nil, List.map_nil, List.length_cons, List.map_cons, List.replicate_succ, List.replicate_zero, List.set_cons_zero, List.take_succ_cons, List.take_zero, List.take_nil, List.length_append, List.map_append, List.cons_append, List.nil_append, List.drop_succ_cons, List.append_nil, List.length_map, hw, hgo, hrow, hci, hsi, List.getElem?_eq_getElem hlt, Cell.enc, hmx1]
          refine ⟨i + 1, by show l.length - (i + 1) < l.length - i; omega, ?_, _, [0, 3], rfl, Wk.mk' rfl (by decide) (by simp only [go_sem, hrho, List.length_map, Cell.map_rens, Cell.enc, hnew, List.length_nil, List.map_nil, List.length_cons, List.map_cons, List.replicate_succ, List.replicate_zero, List.set_cons_zero, List.take_succ_cons, List.take_zero, List.take_nil, List.length_append, List.map_append, List.cons_append, List.nil_append, List.drop_succ_cons, List.append_nil, Nat.reduceAdd, Nat.reduceSub, Nat.reduceMul, Nat.reduceDiv, Nat.reduceMod, Nat.reduceEqDiff, Nat.reduceLeDiff, Nat.reduceLT, Int.reduceLT, Int.reduceLE, Int.reduceEq, Int.reduceToNat, reduceIte, reduceCtorEq]) (by simp only [go_sem, hrho, List.length_map, Cell.map_rens, Cell.enc, hnew, List.length_nil, List.map_nil, List.length_cons, List.map_cons, List.replicate_succ, List.replicate_zero, List.set_cons_zero, List.take_succ_cons, List.take_zero, List.take_nil, List.length_append, List.map_append, List.cons_append, List.nil_append, List.drop_succ_cons, List.append_nil, Nat.reduceAdd, Nat.reduceSub, Nat.reduceMul, Nat.reduceDiv, Nat.reduceMod, Nat.reduceEqDiff, Nat.reduceLeDiff, Nat.reduceLT, Int.reduceLT, Int.reduceLE, Int.reduceEq, Int.reduceToNat, reduceIte, reduceCtorEq])⟩
          omega
        · have h3' : ¬ l[i].key = c.key := h3
          have h2' : ltS l[i].key c.key := Classical.not_not.1 h2
          have hnew : runW c (l.take (i + 1)) = ([l[i]], false) := by rw [runW_next hget, hx]; simp [stepW, h3', h2']
          try simp only [go_sem, Nat.reduceAdd, Nat.reduceSub, Nat.reduceMul, Nat.reduceDiv, Nat.reduceMod, Nat.reduceEqDiff, Nat.reduceLeDiff, Nat.reduceLT, Int.reduceLT, Int.reduceLE, Int.reduceEq, Int.reduceToNat, reduceIte, reduceCtorEq, List.length_nil, List.map_nil, List.length_cons, List.map_cons, List.replicate_succ, List.replicate_zero, List.set_cons_zero, List.take_succ_cons, List.take_zero, List.take_nil, List.length_append, List.map_append, List.cons_append, List.nil_append, List.drop_succ_cons, List.append_nil, List.length_map, hw, hgo, hrow, hci, hsi, List.getElem?_eq_getElem hlt, Cell.enc, hmx1]
          refine ⟨i + 1, by show l.length - (i + 1) < l.length - i; omega, ?_, _, [0, 3], rfl, Wk.mk' rfl (by decide) (by simp only [go_sem, hrho, List.length_map, Cell.map_rens, Cell.enc, hnew, List.length_nil, List.map_nil, List.length_cons, List.map_cons, List.replicate_succ, List.replicate_zero, List.set_cons_zero, List.take_succ_cons, List.take_zero, List.take_nil, List.length_append, List.map_append, List.cons_append, List.nil_append, List.drop_succ_cons, List.append_nil, Nat.reduceAdd, Nat.reduceSub, Nat.reduceMul, Nat.reduceDiv, Nat.reduceMod, Nat.reduceEqDiff, Nat.reduceLeDiff, Nat.reduceLT, Int.reduceLT, Int.reduceLE, Int.reduceEq, Int.reduceToNat, reduceIte, reduceCtorEq]) (by simp only [go_sem, hrho, List.length_map, Cell.map_rens, Cell.enc, hnew, List.length_nil, List.map_nil, List.length_cons, List.map_cons, List.replicate_succ, List.replicate_zero, List.set_cons_zero, List.take_succ_cons, List.take_zero, List.take_nil, List.length_append, List.map_append, List.cons_append, List.nil_append, List.drop_succ_cons, List.append_nil, Nat.reduceAdd, Nat.reduceSub, Nat.reduceMul, Nat.reduceDiv, Nat.reduceMod, Nat.reduceEqDiff, Nat.reduceLeDiff, Nat.reduceLT, Int.reduceLT, Int.reduceLE, Int.reduceEq, Int.reduceToNat, reduceIte, reduceCtorEq])⟩
          omega
        · have h3' : l[i].key = c.key := Classical.not_not.1 h3
          have h2' : ltS l[i].key c.key := Classical.not_not.1 h2
          exact absurd h2' (by rw [h3']; exact ltS_irrefl _)

      · simp only [go_sem, C23L0, Nat.reduceAdd, Nat.reduceSub, Nat.reduceMul, Nat.reduceDiv, Nat.reduceMod, Nat.reduceEqDiff, Nat.reduceLeDiff, Nat.reduceLT, Int.reduceLT, Int.reduceLE, Int.reduceEq, Int.reduceToNat, reduceIte, reduceCtorEq, List.length_nil, List.map_nil, List.length_cons, List.map_cons, List.replicate_succ, List.replicate_zero, List.set_cons_zero, List.take_succ_cons, List.take_zero, List.take_nil, List.length_append, List.map_append, List.cons_append, List.nil_append, List.drop_succ_cons, List.append_nil, List.length_map, hw, hgo, hrow, hci, hsi, List.getElem?_eq_getElem hlt, Cell.enc, hmx1]
        refine ⟨fun h3 => ?_, fun h3 => ?_⟩
        · have h3' : ¬ l[i].key = c.key := h3
          have hnew : runW c (l.take (i + 1)) = ([l[i]], true) := by rw [runW_next hget, hx]; simp [stepW, h3']
          try simp only [go_sem, Nat.reduceAdd, Nat.reduceSub, Nat.reduceMul, Nat.reduceDiv, Nat.reduceMod, Nat.reduceEqDiff, Nat.reduceLeDiff, Nat.reduceLT, Int.reduceLT, Int.reduceLE, Int.reduceEq, Int.reduceToNat, reduceIte, reduceCtorEq, List.length_nil, List.map_nil, List.length_cons, List.map_cons, List.replicate_succ, List.replicate_zero, List.set_cons_zero, List.take_succ_cons, List.take_zero, List.take_nil, List.length_append, List.map_append, List.cons_append, List.nil_append, List.drop_succ_cons, List.append_nil, List.length_map, hw, hgo, hrow, hci, hsi, List.getElem?_eq_getElem hlt, Cell.enc, hmx1]
          refine ⟨i + 1, by show l.length - (i + 1) < l.length - i; omega, ?_, _, [0, 3], rfl, Wk.mk' rfl (by decide) (by simp only [go_sem, hrho, List.length_map, Cell.map_rens, Cell.enc, hnew, List.length_nil, List.map_nil, List.length_cons, List.map_cons, List.replicate_succ, List.replicate_zero, List.set_cons_zero, List.take_succ_cons, List.take_zero, List.take_nil, List.length_append, List.map_append, List.cons_append, List.nil_append, List.drop_succ_cons, List.append_nil, Nat.reduceAdd, Nat.reduceSub, Nat.reduceMul, Nat.reduceDiv, Nat.reduceMod, Nat.reduceEqDiff, Nat.reduceLeDiff, Nat.reduceLT, Int.reduceLT, Int.reduceLE, Int.reduceEq, Int.reduceToNat, reduceIte, reduceCtorEq]) (by simp only [go_sem, hrho, List.length_map, Cell.map_rens, Cell.enc, hnew, List.length_nil, List.map_nil, List.length_cons, List.map_cons, List.replicate_succ, List.replicate_zero, List.set_cons_zero, List.take_succ_cons, List.take_zero, List.take_nil, List.length_append, List.map_append, List.cons_append, List.nil_append, List.drop_succ_cons, List.append_nil, Nat.reduceAdd, Nat.reduceSub, Nat.reduceMul, Nat.reduceDiv, Nat.reduceMod, Nat.reduceEqDiff, Nat.reduceLeDiff, Nat.reduceLT, Int.reduceLT, Int.reduceLE, Int.reduceEq, Int.reduceToNat, reduceIte, reduceCtorEq])⟩
          omega
        · have h3' : l[i].key = c.key := Classical.not_not.1 h3
          have hnew : runW c (l.take (i + 1)) = ([], true) := by rw [runW_next hget, hx]; simp [stepW, h3']
          try simp only [go_sem, Nat.reduceAdd, Nat.reduceSub, Nat.reduceMul, Nat.reduceDiv, Nat.reduceMod, Nat.reduceEqDiff, Nat.reduceLeDiff, Nat.reduceLT, Int.reduceLT, Int.reduceLE, Int.reduceEq, Int.reduceToNat, reduceIte, reduceCtorEq, List.length_nil, List.map_nil, List.length_cons, List.map_cons, List.replicate_succ, List.replicate_zero, List.set_cons_zero, List.take_succ_cons, List.take_zero, List.take_nil, List.length_append, List.map_append, List.cons_append, List.nil_append, List.drop_succ_cons, List.append_nil, List.length_map, hw, hgo, hrow, hci, hsi, List.getElem?_eq_getElem hlt, Cell.enc, hmx1]
          refine ⟨i + 1, by show l.length - (i + 1) < l.length - i; omega, ?_, _, [0, 1], rfl, Wk.mk' rfl (by decide) (by simp only [go_sem, hrho, List.length_map, Cell.map_rens, Cell.enc, hnew, List.length_nil, List.map_nil, List.length_cons, List.map_cons, List.replicate_succ, List.replicate_zero, List.set_cons_zero, List.take_succ_cons, List.take_zero, List.take_nil, List.length_append, List.map_append, List.cons_append, List.nil_append, List.drop_succ_cons, List.append_nil, Nat.reduceAdd, Nat.reduceSub, Nat.reduceMul, Nat.reduceDiv, Nat.reduceMod, Nat.reduceEqDiff, Nat.reduceLeDiff, Nat.reduceLT, Int.reduceLT, Int.reduceLE, Int.reduceEq, Int.reduceToNat, reduceIte, reduceCtorEq]) (by simp only [go_sem, hrho, List.length_map, Cell.map_rens, Cell.enc, hnew, List.length_nil, List.map_nil, List.length_cons, List.map_cons, List.replicate_succ, List.replicate_zero, List.set_cons_zero, List.take_succ_cons, List.take_zero, List.take_nil, List.length_append, List.map_append, List.cons_append, List.nil_append, List.drop_succ_cons, List.append_nil, Nat.reduceAdd, Nat.reduceSub, Nat.reduceMul, Nat.reduceDiv, Nat.reduceMod, Nat.reduceEqDiff, Nat.reduceLeDiff, Nat.reduceLT, Int.reduceLT, Int.reduceLE, Int.reduceEq, Int.reduceToNat, reduceIte, reduceCtorEq])⟩
          omega

      · have hfull : ¬ xs.length + 1 ≤ xs.length := by omega
        have hfull2 : ¬ xs.length + 1 + 1 ≤ xs.length + 1 := by omega
        have htk : List.take xs.length (xs.map Cell.enc) = xs.map Cell.enc := List.take_of_length_le (by simp)
        have htk2 : ∀ e : List AV, List.take (xs.length + 1) (xs.map Cell.enc ++ [e]) = xs.map Cell.enc ++ [e] := fun e => List.take_of_length_le (by simp)
        have hself : xs.length ≤ xs.length := Nat.le_refl _
        have hself2 : xs.length + 1 ≤ xs.length + 1 := Nat.le_refl _
        have h5 : xs.length < 4294967296 := by rw [hx] at hlen; simp only [List.length_cons] at hlen; omega
        have hmx : (2 * (xs.length + 1 + 1) + 192) * 56 ≤ 281474976710656 := mx56 h5
        have hmx2 : (2 * (xs.length + 1 + 1 + 1) + 192) * 56 ≤ 281474976710656 := mx56b h5
        simp only [go_sem, C23L0, Nat.reduceAdd, Nat.reduceSub, Nat.reduceMul, Nat.reduceDiv, Nat.reduceMod, Nat.reduceEqDiff, Nat.reduceLeDiff, Nat.reduceLT, Int.reduceLT, Int.reduceLE, Int.reduceEq, Int.reduceToNat, reduceIte, reduceCtorEq, List.length_nil, List.map_nil, List.length_cons, List.map_cons, List.replicate_succ, List.replicate_zero, List.set_cons_zero, List.take_succ_cons, List.take_zero, List.take_nil, List.length_append, List.map_append, List.cons_append, List.nil_append, List.drop_succ_cons, List.append_nil, List.length_map, hw, hgo, hrow, hci, hsi, List.getElem?_eq_getElem hlt, Cell.enc, hmx1, hfull, hfull2, htk, htk2, hself, hself2, hmx, hmx2]
        refine ⟨fun h2 => ⟨fun h3 => ?_, fun h3 => ?_⟩, fun h2 => ⟨fun h3 => ?_, fun h3 => ?_⟩⟩
        · have h3' : ¬ l[i].key = c.key := h3
          have h2' : ¬ ltS l[i].key c.key := h2
          have hnew : runW c (l.take (i + 1)) = (x :: (xs ++ [c] ++ [l[i]]), true) := by rw [runW_next hget, hx]; simp [stepW, h3', h2']
          try simp only [go_sem, Nat.reduceAdd, Nat.reduceSub, Nat.reduceMul, Nat.reduceDiv, Nat.reduceMod, Nat.reduceEqDiff, Nat.reduceLeDiff, Nat.reduceLT, Int.reduceLT, Int.reduceLE, Int.reduceEq, Int.reduceToNat, reduceIte, reduceCtorEq, List.length_nil, List.map_nil, List.length_cons, List.map_cons, List.replicate_succ, List.replicate_zero, List.set_cons_zero, List.take_succ_cons, List.take_zero, List.take_nil, List.length_append, List.map_append, List.cons_append, List.nil_append, List.drop_succ_cons, List.append_nil, List.length_map, hw, hgo, hrow, hci, hsi, List.getElem?_eq_getElem hlt, Cell.enc, hmx1, hfull, hfull2, htk, htk2, hself, hself2, hmx, hmx2]
          refine ⟨i + 1, by show l.length - (i + 1) < l.length - i; omega, ?_, _, [0, 5], rfl, Wk.mk' rfl (by decide) (by simp only [go_sem, hrho, List.length_map, Cell.map_rens, Cell.enc, hnew, List.length_nil, List.map_nil, List.length_cons, List.map_cons, List.replicate_succ, List.replicate_zero, List.set_cons_zero, List.take_succ_cons, List.take_zero, List.take_nil, List.length_append, List.map_append, List.cons_append, List.nil_append, List.drop_succ_cons, List.append_nil, Nat.reduceAdd, Nat.reduceSub, Nat.reduceMul, Nat.reduceDiv, Nat.reduceMod, Nat.reduceEqDiff, Nat.reduceLeDiff, Nat.reduceLT, Int.reduceLT, Int.reduceLE, Int.reduceEq, Int.reduceToNat, reduceIte, reduceCtorEq]) (by simp only [go_sem, hrho, List.length_map, Cell.map_rens, Cell.enc, hnew, List.length_nil, List.map_nil, List.length_cons, List.map_cons, List.replicate_succ, List.replicate_zero, List.set_cons_zero, List.take_succ_cons, List.take_zero, List.take_nil, List.length_append, List.map_append, List.cons_append, List.nil_append, List.drop_succ_cons, List.append_nil, Nat.reduceAdd, Nat.reduceSub, Nat.reduceMul, Nat.reduceDiv, Nat.reduceMod, Nat.reduceEqDiff, Nat.reduceLeDiff, Nat.reduceLT, Int.reduceLT, Int.reduceLE, Int.reduceEq, Int.reduceToNat, reduceIte, reduceCtorEq])⟩
          omega
        · have h3' : l[i].key = c.key := Classical.not_not.1 h3
          have h2' : ¬ ltS l[i].key c.key := h2
          have hnew : runW c (l.take (i + 1)) = (x :: (xs ++ [c]), true) := by rw [runW_next hget, hx]; simp [stepW, h3', ltS_irrefl]
          try simp only [go_sem, Nat.reduceAdd, Nat.reduceSub, Nat.reduceMul, Nat.reduceDiv, Nat.reduceMod, Nat.reduceEqDiff, Nat.reduceLeDiff, Nat.reduceLT, Int.reduceLT, Int.reduceLE, Int.reduceEq, Int.reduceToNat, reduceIte, reduceCtorEq, List.length_nil, List.map_nil, List.length_cons, List.map_cons, List.replicate_succ, List.replicate_zero, List.set_cons_zero, List.take_succ_cons, List.take_zero, List.take_nil, List.length_append, List.map_append, List.cons_append, List.nil_append, List.drop_succ_cons, List.append_nil, List.length_map, hw, hgo, hrow, hci, hsi, List.getElem?_eq_getElem hlt, Cell.enc, hmx1, hfull, hfull2, htk, htk2, hself, hself2, hmx, hmx2]
          refine ⟨i + 1, by show l.length - (i + 1) < l.length - i; omega, ?_, _, [0, 3], rfl, Wk.mk' rfl (by decide) (by simp only [go_sem, hrho, List.length_map, Cell.map_rens, Cell.enc, hnew, List.length_nil, List.map_nil, List.length_cons, List.map_cons, List.replicate_succ, List.replicate_zero, List.set_cons_zero, List.take_succ_cons, List.take_zero, List.take_nil, List.length_append, List.map_append, List.cons_append, List.nil_append, List.drop_succ_cons, List.append_nil, Nat.reduceAdd, Nat.reduceSub, Nat.reduceMul, Nat.reduceDiv, Nat.reduceMod, Nat.reduceEqDiff, Nat.reduceLeDiff, Nat.reduceLT, Int.reduceLT, Int.reduceLE, Int.reduceEq, Int.reduceToNat, reduceIte, reduceCtorEq]) (by simp only [go_sem, hrho, List.length_map, Cell.map_rens, Cell.enc, hnew, List.length_nil, List.map_nil, List.length_cons, List.map_cons, List.replicate_succ, List.replicate_zero, List.set_cons_zero, List.take_succ_cons, List.take_zero, List.take_nil, List.length_append, List.map_append, List.cons_append, List.nil_append, List.drop_succ_cons, List.append_nil, Nat.reduceAdd, Nat.reduceSub, Nat.reduceMul, Nat.reduceDiv, Nat.reduceMod, Nat.reduceEqDiff, Nat.reduceLeDiff, Nat.reduceLT, Int.reduceLT, Int.reduceLE, Int.reduceEq, Int.reduceToNat, reduceIte, reduceCtorEq])⟩
          omega
        · have h3' : ¬ l[i].key = c.key := h3
          have h2' : ltS l[i].key c.key := Classical.not_not.1 h2
          have hnew : runW c (l.take (i + 1)) = (x :: (xs ++ [l[i]]), false) := by rw [runW_next hget, hx]; simp [stepW, h3', h2']
          try simp only [go_sem, Nat.reduceAdd, Nat.reduceSub, Nat.reduceMul, Nat.reduceDiv, Nat.reduceMod, Nat.reduceEqDiff, Nat.reduceLeDiff, Nat.reduceLT, Int.reduceLT, Int.reduceLE, Int.reduceEq, Int.reduceToNat, reduceIte, reduceCtorEq, List.length_nil, List.map_nil, List.length_cons, List.map_cons, List.replicate_succ, List.replicate_zero, List.set_cons_zero, List.take_succ_cons, List.take_zero, List.take_nil, List.length_append, List.map_append, List.cons_append, List.nil_append, List.drop_succ_cons, List.append_nil, List.length_map, hw, hgo, hrow, hci, hsi, List.getElem?_eq_getElem hlt, Cell.enc, hmx1, hfull, hfull2, htk, htk2, hself, hself2, hmx, hmx2]
          refine ⟨i + 1, by show l.length - (i + 1) < l.length - i; omega, ?_, _, [0, 3], rfl, Wk.mk' rfl (by decide) (by simp only [go_sem, hrho, List.length_map, Cell.map_rens, Cell.enc, hnew, List.length_nil, List.map_nil, List.length_cons, List.map_cons, List.replicate_succ, List.replicate_zero, List.set_cons_zero, List.take_succ_cons, List.take_zero, List.take_nil, List.length_append, List.map_append, List.cons_append, List.nil_append, List.drop_succ_cons, List.append_nil, Nat.reduceAdd, Nat.reduceSub, Nat.reduceMul, Nat.reduceDiv, Nat.reduceMod, Nat.reduceEqDiff, Nat.reduceLeDiff, Nat.reduceLT, Int.reduceLT, Int.reduceLE, Int.reduceEq, Int.reduceToNat, reduceIte, reduceCtorEq]) (by simp only [go_sem, hrho, List.length_map, Cell.map_rens, Cell.enc, hnew, List.length_nil, List.map_nil, List.length_cons, List.map_cons, List.replicate_succ, List.replicate_zero, List.set_cons_zero, List.take_succ_cons, List.take_zero, List.take_nil, List.length_append, List.map_append, List.cons_append, List.nil_append, List.drop_succ_cons, List.append_nil, Nat.reduceAdd, Nat.reduceSub, Nat.reduceMul, Nat.reduceDiv, Nat.reduceMod, Nat.reduceEqDiff, Nat.reduceLeDiff, Nat.reduceLT, Int.reduceLT, Int.reduceLE, Int.reduceEq, Int.reduceToNat, reduceIte, reduceCtorEq])⟩
          omega
        · have h3' : l[i].key = c.key := Classical.not_not.1 h3
          have h2' : ltS l[i].key c.key := Classical.not_not.1 h2
          exact absurd h2' (by rw [h3']; exact ltS_irrefl _)

      · have hfull : ¬ xs.length + 1 ≤ xs.length := by omega
        have hfull2 : ¬ xs.length + 1 + 1 ≤ xs.length + 1 := by omega
        have htk : List.take xs.length (xs.map Cell.enc) = xs.map Cell.enc := List.take_of_length_le (by simp)
        have htk2 : ∀ e : List AV, List.take (xs.length + 1) (xs.map Cell.enc ++ [e]) = xs.map Cell.enc ++ [e] := fun e => List.take_of_length_le (by simp)
        have hself : xs.length ≤ xs.length := Nat.le_refl _
        have hself2 : xs.length + 1 ≤ xs.length + 1 := Nat.le_refl _
        have h5 : xs.length < 4294967296 := by rw [hx] at hlen; simp only [List.length_cons] at hlen; omega
        have hmx : (2 * (xs.length + 1 + 1) + 192) * 56 ≤ 281474976710656 := mx56 h5
        have hmx2 : (2 * (xs.length + 1 + 1 + 1) + 192) * 56 ≤ 281474976710656 := mx56b h5
        simp only [go_sem, C23L0, Nat.reduceAdd, Nat.reduceSub, Nat.reduceMul, Nat.reduceDiv, Nat.reduceMod, Nat.reduceEqDiff, Nat.reduceLeDiff, Nat.reduceLT, Int.reduceLT, Int.reduceLE, Int.reduceEq, Int.reduceToNat, reduceIte, reduceCtorEq, List.length_nil, List.map_nil, List.length_cons, List.map_cons, List.replicate_succ, List.replicate_zero, List.set_cons_zero, List.take_succ_cons, List.take_zero, List.take_nil, List.length_append, List.map_append, List.cons_append, List.nil_append, List.drop_succ_cons, List.append_nil, List.length_map, hw, hgo, hrow, hci, hsi, List.getElem?_eq_getElem hlt, Cell.enc, hmx1, hfull, hfull2, htk, htk2, hself, hself2, hmx, hmx2]
        refine ⟨fun h3 => ?_, fun h3 => ?_⟩
        · have h3' : ¬ l[i].key = c.key := h3
          have hnew : runW c (l.take (i + 1)) = (x :: (xs ++ [l[i]]), true) := by rw [runW_next hget, hx]; simp [stepW, h3']
          try simp only [go_sem, Nat.reduceAdd, Nat.reduceSub, Nat.reduceMul, Nat.reduceDiv, Nat.reduceMod, Nat.reduceEqDiff, Nat.reduceLeDiff, Nat.reduceLT, Int.reduceLT, Int.reduceLE, Int.reduceEq, Int.reduceToNat, reduceIte, reduceCtorEq, List.length_nil, List.map_nil, List.length_cons, List.map_cons, List.replicate_succ, List.replicate_zero, List.set_cons_zero, List.take_succ_cons, List.take_zero, List.take_nil, List.length_append, List.map_append, List.cons_append, List.nil_append, List.drop_succ_cons, List.append_nil, List.length_map, hw, hgo, hrow, hci, hsi, List.getElem?_eq_getElem hlt, Cell.enc, hmx1, hfull, hfull2, htk, htk2, hself, hself2, hmx, hmx2]
          refine ⟨i + 1, by show l.length - (i + 1) < l.length - i; omega, ?_, _, [0, 3], rfl, Wk.mk' rfl (by decide) (by simp only [go_sem, hrho, List.length_map, Cell.map_rens, Cell.enc, hnew, List.length_nil, List.map_nil, List.length_cons, List.map_cons, List.replicate_succ, List.replicate_zero, List.set_cons_zero, List.take_succ_cons, List.take_zero, List.take_nil, List.length_append, List.map_append, List.cons_append, List.nil_append, List.drop_succ_cons, List.append_nil, Nat.reduceAdd, Nat.reduceSub, Nat.reduceMul, Nat.reduceDiv, Nat.reduceMod, Nat.reduceEqDiff, Nat.reduceLeDiff, Nat.reduceLT, Int.reduceLT, Int.reduceLE, Int.reduceEq, Int.reduceToNat, reduceIte, reduceCtorEq]) (by simp only [go_sem, hrho, List.length_map, Cell.map_rens, Cell.enc, hnew, List.length_nil, List.map_nil, List.length_cons, List.map_cons, List.replicate_succ, List.replicate_zero, List.set_cons_zero, List.take_succ_cons, List.take_zero, List.take_nil, List.length_append, List.map_append, List.cons_append, List.nil_append, List.drop_succ_cons, List.append_nil, Nat.reduceAdd, Nat.reduceSub, Nat.reduceMul, Nat.reduceDiv, Nat.reduceMod, Nat.reduceEqDiff, Nat.reduceLeDiff, Nat.reduceLT, Int.reduceLT, Int.reduceLE, Int.reduceEq, Int.reduceToNat, reduceIte, reduceCtorEq])⟩
          omega
        · have h3' : l[i].key = c.key := Classical.not_not.1 h3
          have hnew : runW c (l.take (i + 1)) = (x :: xs, true) := by rw [runW_next hget, hx]; simp [stepW, h3']
          try simp only [go_sem, Nat.reduceAdd, Nat.reduceSub, Nat.reduceMul, Nat.reduceDiv, Nat.reduceMod, Nat.reduceEqDiff, Nat.reduceLeDiff, Nat.reduceLT, Int.reduceLT, Int.reduceLE, Int.reduceEq, Int.reduceToNat, reduceIte, reduceCtorEq, List.length_nil, List.map_nil, List.length_cons, List.map_cons, List.replicate_succ, List.replicate_zero, List.set_cons_zero, List.take_succ_cons, List.take_zero, List.take_nil, List.length_append, List.map_append, List.cons_append, List.nil_append, List.drop_succ_cons, List.append_nil, List.length_map, hw, hgo, hrow, hci, hsi, List.getElem?_eq_getElem hlt, Cell.enc, hmx1, hfull, hfull2, htk, htk2, hself, hself2, hmx, hmx2]
          refine ⟨i + 1, by show l.length - (i + 1) < l.length - i; omega, ?_, _, [0, 1], rfl, Wk.mk' rfl (by decide) (by simp only [go_sem, hrho, List.length_map, Cell.map_rens, Cell.enc, hnew, List.length_nil, List.map_nil, List.length_cons, List.map_cons, List.replicate_succ, List.replicate_zero, List.set_cons_zero, List.take_succ_cons, List.take_zero, List.take_nil, List.length_append, List.map_append, List.cons_append, List.nil_append, List.drop_succ_cons, List.append_nil, Nat.reduceAdd, Nat.reduceSub, Nat.reduceMul, Nat.reduceDiv, Nat.reduceMod, Nat.reduceEqDiff, Nat.reduceLeDiff, Nat.reduceLT, Int.reduceLT, Int.reduceLE, Int.reduceEq, Int.reduceToNat, reduceIte, reduceCtorEq]) (by simp only [go_sem, hrho, List.length_map, Cell.map_rens, Cell.enc, hnew, List.length_nil, List.map_nil, List.length_cons, List.map_cons, List.replicate_succ, List.replicate_zero, List.set_cons_zero, List.take_succ_cons, List.take_zero, List.take_nil, List.length_append, List.map_append, List.cons_append, List.nil_append, List.drop_succ_cons, List.append_nil, Nat.reduceAdd, Nat.reduceSub, Nat.reduceMul, Nat.reduceDiv, Nat.reduceMod, Nat.reduceEqDiff, Nat.reduceLeDiff, Nat.reduceLT, Int.reduceLT, Int.reduceLE, Int.reduceEq, Int.reduceToNat, reduceIte, reduceCtorEq])⟩
          omega

    · have hci : ¬ (i : Int) < (l.length : Int) := by omega
      rw [take_all (by omega)]
      have hmx1 : (2 * (1 + 1) + 192) * 56 ≤ 281474976710656 := by decide
      rw [take_all (by omega)] at hlen
      rcases hx : runW c l with ⟨_ | ⟨x, xs⟩, _ | _⟩
      · have hrf : refW l c = [c] := by rw [refW, hx]; rfl
        simp only [go_sem, C23L0, Nat.reduceAdd, Nat.reduceSub, Nat.reduceMul, Nat.reduceDiv, Nat.reduceMod, Nat.reduceEqDiff, Nat.reduceLeDiff, Nat.reduceLT, Int.reduceLT, Int.reduceLE, Int.reduceEq, Int.reduceToNat, reduceIte, reduceCtorEq, List.length_map, hci, List.length_nil, List.map_nil, List.length_cons, List.map_cons, List.replicate_succ, List.replicate_zero, List.set_cons_zero, List.take_succ_cons, List.take_zero, List.take_nil, List.length_append, List.map_append, List.cons_append, List.nil_append, List.drop_succ_cons, List.append_nil, hmx1, Cell.enc]
        rw [hrf]
        exact ⟨_, 3, rfl, rfl, rfl⟩
      · have hrf : refW l c = [] := by rw [refW, hx]; rfl
        simp only [go_sem, C23L0, Nat.reduceAdd, Nat.reduceSub, Nat.reduceMul, Nat.reduceDiv, Nat.reduceMod, Nat.reduceEqDiff, Nat.reduceLeDiff, Nat.reduceLT, Int.reduceLT, Int.reduceLE, Int.reduceEq, Int.reduceToNat, reduceIte, reduceCtorEq, List.length_map, hci, List.length_nil, List.map_nil, List.length_cons, List.map_cons, List.replicate_succ, List.replicate_zero, List.set_cons_zero, List.take_succ_cons, List.take_zero, List.take_nil, List.length_append, List.map_append, List.cons_append, List.nil_append, List.drop_succ_cons, List.append_nil, hmx1, Cell.enc]
        rw [hrf]
        exact ⟨_, 1, rfl, rfl, rfl⟩
      · have hrf : refW l c = x :: (xs ++ [c]) := by rw [refW, hx]; rfl
        have hfull : ¬ xs.length + 1 ≤ xs.length := by omega
        have hfull2 : ¬ xs.length + 1 + 1 ≤ xs.length + 1 := by omega
        have htk : List.take xs.length (xs.map Cell.enc) = xs.map Cell.enc := List.take_of_length_le (by simp)
        have htk2 : ∀ e : List AV, List.take (xs.length + 1) (xs.map Cell.enc ++ [e]) = xs.map Cell.enc ++ [e] := fun e => List.take_of_length_le (by simp)
        have hself : xs.length ≤ xs.length := Nat.le_refl _
        have hself2 : xs.length + 1 ≤ xs.length + 1 := Nat.le_refl _
        have h5 : xs.length < 4294967296 := by rw [hx] at hlen; simp only [List.length_cons] at hlen; omega
        have hmx : (2 * (xs.length + 1 + 1) + 192) * 56 ≤ 281474976710656 := mx56 h5
        have hmx2 : (2 * (xs.length + 1 + 1 + 1) + 192) * 56 ≤ 281474976710656 := mx56b h5
        simp only [go_sem, C23L0, Nat.reduceAdd, Nat.reduceSub, Nat.reduceMul, Nat.reduceDiv, Nat.reduceMod, Nat.reduceEqDiff, Nat.reduceLeDiff, Nat.reduceLT, Int.reduceLT, Int.reduceLE, Int.reduceEq, Int.reduceToNat, reduceIte, reduceCtorEq, List.length_map, hci, List.length_nil, List.map_nil, List.length_cons, List.map_cons, List.replicate_succ, List.replicate_zero, List.set_cons_zero, List.take_succ_cons, List.take_zero, List.take_nil, List.length_append, List.map_append, List.cons_append, List.nil_append, List.drop_succ_cons, List.append_nil, hmx1, hfull, htk, hself, hmx, Cell.enc]
        rw [hrf]
        refine ⟨_, 3, ?_, rfl, ?_⟩
        · simp only [go_sem, List.length_nil, List.map_nil, List.length_cons, List.map_cons, List.replicate_succ, List.replicate_zero, List.set_cons_zero, List.take_succ_cons, List.take_zero, List.take_nil, List.length_append, List.map_append, List.cons_append, List.nil_append, List.drop_succ_cons, List.append_nil, Nat.reduceAdd, Nat.reduceSub, Nat.reduceMul, Nat.reduceDiv, Nat.reduceMod, Nat.reduceEqDiff, Nat.reduceLeDiff, Nat.reduceLT, Int.reduceLT, Int.reduceLE, Int.reduceEq, Int.reduceToNat, reduceIte, reduceCtorEq]
        · simp only [go_sem, List.length_nil, List.map_nil, List.length_cons, List.map_cons, List.replicate_succ, List.replicate_zero, List.set_cons_zero, List.take_succ_cons, List.take_zero, List.take_nil, List.length_append, List.map_append, List.cons_append, List.nil_append, List.drop_succ_cons, List.append_nil, Nat.reduceAdd, Nat.reduceSub, Nat.reduceMul, Nat.reduceDiv, Nat.reduceMod, Nat.reduceEqDiff, Nat.reduceLeDiff, Nat.reduceLT, Int.reduceLT, Int.reduceLE, Int.reduceEq, Int.reduceToNat, reduceIte, reduceCtorEq, Cell.enc]
      · have hrf : refW l c = x :: xs := by rw [refW, hx]; rfl
        simp only [go_sem, C23L0, Nat.reduceAdd, Nat.reduceSub, Nat.reduceMul, Nat.reduceDiv, Nat.reduceMod, Nat.reduceEqDiff, Nat.reduceLeDiff, Nat.reduceLT, Int.reduceLT, Int.reduceLE, Int.reduceEq, Int.reduceToNat, reduceIte, reduceCtorEq, List.length_map, hci, List.length_nil, List.map_nil, List.length_cons, List.map_cons, List.replicate_succ, List.replicate_zero, List.set_cons_zero, List.take_succ_cons, List.take_zero, List.take_nil, List.length_append, List.map_append, List.cons_append, List.nil_append, List.drop_succ_cons, List.append_nil, hmx1, Cell.enc]
        rw [hrf]
        exact ⟨_, 1, rfl, rfl, rfl⟩

end Go.Proofs
/- index: what the functions answer, as an oracle. -/

set_option linter.all false
set_option maxRecDepth 100000
namespace Go.Proofs
open Go Go.Ev
variable {H : Heap}
/-- one new block, that of what is handed back (or none) -/
theorem padV {P : Program} {f : FuncId} {args : List AV} {esz : Nat} {xs : List (List AV)} (hx : ∀ ρ, xs.map (AV.rens ρ) = xs)
    (h : FnOk P f args H fun v G => v = outV H.nx esz xs.length ∧ G = H.ext (outL esz xs)) : FnOk P f args H fun v G => v = outV H.nx esz xs.length ∧ G = H.ext [outB esz xs] := by
  cases xs with
  | nil =>
    refine h.wk ?_
    rintro v G ⟨rfl, rfl⟩
    exact ⟨[], [.dead], [0], .nils, rfl, rfl, rfl, by decide, by simp [Blk.live], rfl, rfl⟩
  | cons x xs => exact h
theorem outB_arr {L : List Blk} {esz i : Nat} {xs : List (List AV)} (h : L[i]? = some (outB esz xs)) : Arr (H.ext L) esz (outV (H.key i) esz xs.length) xs := by
  cases xs with
  | nil => exact .inl ⟨rfl, rfl⟩
  | cons x xs =>
    have hi := (List.getElem?_eq_some_iff.1 h).1
    refine .inr ⟨H.key i, 0, false, xs.length + 1, rfl, ?_, fun _ => ⟨0, true, x :: xs, by simp, ?_, by simp⟩⟩
    · rw [Heap.nx_ext, Heap.toNat_key, Heap.toNat_key]; omega
    · rw [Heap.get_ext_key _ _ _ hi, h]; rfl
def frB (v : AV) (esz : Nat) (xs : List (List AV)) : Blk := match v with | .nils => outB esz xs | _ => .row true esz xs
theorem frB_arr {v : AV} {L : List Blk} {esz i : Nat} {xs : List (List AV)} (h : L[i]? = some (frB v esz xs)) : Arr (H.ext L) esz (frV v (H.key i) esz xs.length) xs := by
  by_cases hv : v = .nils
  · subst hv; exact outB_arr h
  · have e1 : frB v esz xs = .row true esz xs := by cases v <;> first | rfl | exact absurd rfl hv
    have e2 : frV v (H.key i) esz xs.length = .slice (H.key i) 0 xs.length esz false xs.length := by cases v <;> first | rfl | exact absurd rfl hv
    rw [e1] at h; rw [e2]
    have hi := (List.getElem?_eq_some_iff.1 h).1
    refine .inr ⟨H.key i, 0, false, xs.length, rfl, ?_, fun _ => ⟨0, true, xs, by simp, ?_, by simp⟩⟩
    · rw [Heap.nx_ext, Heap.toNat_key, Heap.toNat_key]; omega
    · rw [Heap.get_ext_key _ _ _ hi, h]
theorem padF {P : Program} {f : FuncId} {args : List AV} {v0 : AV} {esz : Nat} {xs : List (List AV)} (hx : ∀ ρ, xs.map (AV.rens ρ) = xs)
    (h : FnOk P f args H fun v G => v = frV v0 H.nx esz xs.length ∧ G = H.ext (frL v0 esz xs)) : FnOk P f args H fun v G => v = frV v0 H.nx esz xs.length ∧ G = H.ext [frB v0 esz xs] := by
  by_cases hv : v0 = .nils
  · subst hv; exact padV hx h
  · have e1 : frL v0 esz xs = [.row true esz xs] := by cases v0 <;> first | rfl | exact absurd rfl hv
    have e2 : frB v0 esz xs = .row true esz xs := by cases v0 <;> first | rfl | exact absurd rfl hv
    rw [e1] at h; rw [e2]
    exact h
theorem padV' {P : Program} {f : FuncId} {args : List AV} {esz n : Nat} {xs : List (List AV)} (hn : xs.length = n) (hx : ∀ ρ, xs.map (AV.rens ρ) = xs)
    (h : FnOk P f args H fun v G => v = outV H.nx esz n ∧ G = H.ext (outL esz xs)) : FnOk P f args H fun v G => v = outV H.nx esz n ∧ G = H.ext [outB esz xs] := by subst hn; exact padV hx h
theorem padF' {P : Program} {f : FuncId} {args : List AV} {v0 : AV} {esz n : Nat} {xs : List (List AV)} (hn : xs.length = n) (hx : ∀ ρ, xs.map (AV.rens ρ) = xs)
    (h : FnOk P f args H fun v G => v = frV v0 H.nx esz n ∧ G = H.ext (frL v0 esz xs)) : FnOk P f args H fun v G => v = frV v0 H.nx esz n ∧ G = H.ext [frB v0 esz xs] := by subst hn; exact padF hx h
theorem enc_inj : ∀ {a b : Cell}, a.enc = b.enc → a = b := by
  rintro ⟨a1, a2, a3, a4, a5⟩ ⟨b1, b2, b3, b4, b5⟩ h
  simp [Cell.enc] at h
  obtain ⟨rfl, rfl, rfl, rfl, rfl⟩ := h
  rfl
theorem arr_one {v : AV} {esz : Nat} {xs ys : List (List AV)} (hx : Arr H esz v xs) (hy : Arr H esz v ys) (he : 0 < esz) : xs = ys := by
  rcases hx with ⟨rfl, rfl⟩ | ⟨k, off, ex, cap, rfl, _, h1⟩
  · rcases hy with ⟨_, rfl⟩ | ⟨_, _, _, _, h, _⟩
    · rfl
    · cases h
  · rcases hy with ⟨h, _⟩ | ⟨k', off', ex', cap', h, _, h2⟩
    · cases h
    · injection h with e1 e2 e3 e4 e5 e6
      subst e1 e2
      by_cases hn : xs = []
      · subst hn
        exact (List.length_eq_zero_iff.1 (by rw [← e3]; rfl)).symm
      · have hn' : ys ≠ [] := by intro h; subst h; exact hn (List.length_eq_zero_iff.1 (by rw [e3]; rfl))
        obtain ⟨r, wr, rows, e7, e8, e9⟩ := h1 hn
        obtain ⟨r', wr', rows', f7, f8, f9⟩ := h2 hn'
        rw [e8] at f8; cases f8
        have : r = r' := by
          have := e7.symm.trans f7
          exact Nat.eq_of_mul_eq_mul_right he this
        subst this
        rw [← e9, ← f9, e3]
/-- the cells that a slice holds -/
noncomputable def cellsOf (H : Heap) (v : AV) : Option (List Cell) := open Classical in if h : ∃ l : List Cell, Arr H 5 v (l.map Cell.enc) ∧ l.length < 4294967295 then some (Classical.choose h) else none
theorem cellsOf_eq {v : AV} {l : List Cell} (h : Arr H 5 v (l.map Cell.enc)) (hl : l.length < 4294967295) : cellsOf H v = some l := by
  unfold cellsOf
  have hex : ∃ l : List Cell, Arr H 5 v (l.map Cell.enc) ∧ l.length < 4294967295 := ⟨l, h, hl⟩
  rw [dif_pos hex]
  congr 1
  have := arr_one (Classical.choose_spec hex).1 h (by decide)
  exact List.map_inj_right (fun _ _ => enc_inj) |>.1 this
theorem cellsOf_spec {v : AV} {l : List Cell} (h : cellsOf H v = some l) : Arr H 5 v (l.map Cell.enc) ∧ l.length < 4294967295 := by
  unfold cellsOf at h
  split at h
  · rename_i hex
    cases h
    exact Classical.choose_spec hex
  · cases h
noncomputable def oc (H : Heap) (v : AV) (c : List Cell → RC) : RC := match cellsOf H v with | some l => c l | none => .fail
theorem oc_eq {v : AV} {l : List Cell} (h : Arr H 5 v (l.map Cell.enc)) (hl : l.length < 4294967295) (c : List Cell → RC) : oc H v c = c l := by
  unfold oc; rw [cellsOf_eq h hl]
theorem oc_ok {v r : AV} {c : List Cell → RC} {G : Heap} (h : oc H v c = .ok r G) : ∃ l : List Cell, Arr H 5 v (l.map Cell.enc) ∧ l.length < 4294967295 ∧ c l = .ok r G := by
  unfold oc at h
  split at h
  · rename_i l hl
    exact ⟨l, (cellsOf_spec hl).1, (cellsOf_spec hl).2, h⟩
  · cases h
noncomputable def EI : FuncId → List AV → Heap → RC
  | 15, [v, .agg [.str f, .str t], .int .i64 n], H => oc H v fun l => .ok (outV H.nx 3 (rowsL f t n l).length) (H.ext [outB 3 ((rowsL f t n l).map Cell.row)])
  | 16, [v, .agg [.str f, .str t], .int .i64 n], H => oc H v fun l => .ok (outV H.nx 3 (rowsL f t n l).length) (H.ext [outB 3 ((rowsL f t n l).map Cell.row)])
  | 17, [v], H => oc H v fun l => .ok (.bool (decide (isIdx l))) H
  | 18, [v], H => oc H v fun l => .ok (.bool (decide (isIdx l))) H
  | 19, [v, w], H => oc H v fun l => oc H w fun m => .ok (.bool (decide (l = m))) H
  | 20, [v, .agg [.str f, .str t]], H => oc H v fun l => .ok (outV H.nx 5 (withinL f t l).length) (H.ext [outB 5 ((withinL f t l).map Cell.enc)])
  | 21, [v, .agg [.str f, .str t]], H => oc H v fun l => .ok (outV H.nx 5 (withinL f t l).length) (H.ext [outB 5 ((withinL f t l).map Cell.enc)])
  | 22, [v, .agg [.str k, .str x, .int .i64 n, .bool d, .int .i64 f]], H => oc H v fun l => .ok (frV v H.nx 5 (withC l ⟨k, x, n, d, f⟩).length) (H.ext [frB v 5 ((withC l ⟨k, x, n, d, f⟩).map Cell.enc)])
  | 23, [v, .agg [.str k, .str x, .int .i64 n, .bool d, .int .i64 f]], H => oc H v fun l => if cellIs ⟨k, x, n, d, f⟩ then .ok (outV H.nx 5 (refW l ⟨k, x, n, d, f⟩).length) (H.ext [outB 5 ((refW l ⟨k, x, n, d, f⟩).map Cell.enc)]) else .ok v H
  | 24, [.agg [.str k, .str v, .int .i64 n, .bool d, .int .i64 f]], H => .ok (.bool (decide (cellIs ⟨k, v, n, d, f⟩))) H
  | _, _, _ => .fail
theorem good_EI : Good Try.prog EI := by
  intro f args H r G he φ w args' ha hw
  refine (?_ : FnOk Try.prog f args H fun v' G' => v' = r ∧ G' = G).one φ w args' ha hw
  unfold EI at he
  split at he
  · obtain ⟨l, h1, h2, h3⟩ := oc_ok he
    cases h3
    exact padV' (List.length_map ..) (Cell.map_row · _) (f15_ok h1 (by omega) _ _ _)
  · obtain ⟨l, h1, h2, h3⟩ := oc_ok he
    cases h3
    exact padV' (List.length_map ..) (Cell.map_row · _) (f16_ok h1 (by omega) _ _ _)
  · obtain ⟨l, h1, h2, h3⟩ := oc_ok he
    cases h3
    exact f17_ok h1 (by omega)
  · obtain ⟨l, h1, h2, h3⟩ := oc_ok he
    cases h3
    exact f18_ok h1 (by omega)
  · obtain ⟨l, h1, h2, h3⟩ := oc_ok he
    obtain ⟨m, h4, h5, h6⟩ := oc_ok h3
    cases h6
    exact f19_ok h1 h4 (by omega) (by omega)
  · obtain ⟨l, h1, h2, h3⟩ := oc_ok he
    cases h3
    exact padV' (List.length_map ..) (Cell.map_rens · _) (f20_ok h1 (by omega) _ _)
  · obtain ⟨l, h1, h2, h3⟩ := oc_ok he
    cases h3
    exact padV' (List.length_map ..) (Cell.map_rens · _) (f21_ok h1 (by omega) _ _)
  · obtain ⟨l, h1, h2, h3⟩ := oc_ok he
    cases h3
    exact padF' (List.length_map ..) (Cell.map_rens · _) (f22_ok h1 h2 ⟨_, _, _, _, _⟩)
  · obtain ⟨l, h1, h2, h3⟩ := oc_ok he
    split at h3
    · rename_i hc
      cases h3
      exact padV' (List.length_map ..) (Cell.map_rens · _) (f23_yes h1 h2 hc)
    · rename_i hc
      cases h3
      exact f23_no h1 hc
  · cases he
    exact f24_ok ⟨_, _, _, _, _⟩
  · cases he
section
variable {v : AV} {l : List Cell} (h : Arr H 5 v (l.map Cell.enc)) (hl : l.length < 4294967295)
include h hl
theorem e15 (f t : List Nat) (n : Int) : EI 15 [v, .agg [.str f, .str t], .int .i64 n] H = .ok (outV H.nx 3 (rowsL f t n l).length) (H.ext [outB 3 ((rowsL f t n l).map Cell.row)]) := oc_eq h hl _
theorem e16 (f t : List Nat) (n : Int) : EI 16 [v, .agg [.str f, .str t], .int .i64 n] H = .ok (outV H.nx 3 (rowsL f t n l).length) (H.ext [outB 3 ((rowsL f t n l).map Cell.row)]) := oc_eq h hl _
theorem e17 : EI 17 [v] H = .ok (.bool (decide (isIdx l))) H := oc_eq h hl _
theorem e18 : EI 18 [v] H = .ok (.bool (decide (isIdx l))) H := oc_eq h hl _
theorem e20 (f t : List Nat) : EI 20 [v, .agg [.str f, .str t]] H = .ok (outV H.nx 5 (withinL f t l).length) (H.ext [outB 5 ((withinL f t l).map Cell.enc)]) := oc_eq h hl _
theorem e21 (f t : List Nat) : EI 21 [v, .agg [.str f, .str t]] H = .ok (outV H.nx 5 (withinL f t l).length) (H.ext [outB 5 ((withinL f t l).map Cell.enc)]) := oc_eq h hl _
theorem e22 (c : Cell) : EI 22 [v, .agg [.str c.key, .str c.value, .int .i64 c.ver, .bool c.del, .int .i64 c.floor]] H = .ok (frV v H.nx 5 (withC l c).length) (H.ext [frB v 5 ((withC l c).map Cell.enc)]) := oc_eq h hl _
theorem e23 (c : Cell) : EI 23 [v, .agg [.str c.key, .str c.value, .int .i64 c.ver, .bool c.del, .int .i64 c.floor]] H = if cellIs c then .ok (outV H.nx 5 (refW l c).length) (H.ext [outB 5 ((refW l c).map Cell.enc)]) else .ok v H := oc_eq h hl _
end
theorem e19 {v w : AV} {l m : List Cell} (h : Arr H 5 v (l.map Cell.enc)) (hl : l.length < 4294967295) (g : Arr H 5 w (m.map Cell.enc)) (hm : m.length < 4294967295) : EI 19 [v, w] H = .ok (.bool (decide (l = m))) H :=
  (oc_eq h hl _).trans (oc_eq g hm _)
theorem e24' (k v : List Nat) (n : Int) (d : Bool) (f : Int) (H : Heap) : EI 24 [.agg [.str k, .str v, .int .i64 n, .bool d, .int .i64 f]] H = .ok (.bool (decide (cellIs ⟨k, v, n, d, f⟩))) H := rfl
end Go.Proofs
