/- index: the law of building, walked. -/
import Derived.Test.YtiadcabmonbgiaaX8Z
set_option linter.all false
set_option maxRecDepth 100000
namespace Go.Proofs
open Go Go.Ev
variable {H : Heap}

@[go_sem high] theorem outV_ren (ρ : K → K) (k : K) (e n : Nat) : AV.ren ρ (outV k e n) = outV (ρ k) e n := by cases n with | zero => show AV.ren ρ .nils = .nils; rw [AV.ren] | succ n => show AV.ren ρ (.slice k 0 (n + 1) e false (n + 1)) = .slice (ρ k) 0 (n + 1) e false (n + 1); rw [AV.ren]
@[go_sem ↓] theorem outB_ren (ρ : K → K) (l : List Cell) : Blk.ren ρ (outB 5 (l.map Cell.enc)) = outB 5 (l.map Cell.enc) := by
  cases l with
  | nil => rfl
  | cons c l => show Blk.row true 5 (((c :: l).map Cell.enc).map (AV.rens ρ)) = Blk.row true 5 ((c :: l).map Cell.enc); rw [Cell.map_rens]
def laterOk (l : List Cell) (k : List Nat) (i j : Nat) : Prop := ∀ j' d, i < j' → j' < j → l[j']? = some d → ¬ (d.key = k ∧ cellIs d)
noncomputable instance (l : List Cell) (k : List Nat) (i j : Nat) : Decidable (laterOk l k i j) := Classical.propDecidable _
theorem laterOk_next {l : List Cell} {k : List Nat} {i j : Nat} {d : Cell} (h : l[j]? = some d) (hij : i < j) : laterOk l k i (j + 1) ↔ laterOk l k i j ∧ ¬ (d.key = k ∧ cellIs d) := by
  constructor
  · intro g
    exact ⟨fun j' e h1 h2 h3 => g j' e h1 (by omega) h3, g j d hij (by omega) h⟩
  · rintro ⟨g1, g2⟩ j' e h1 h2 h3
    rcases Nat.lt_or_ge j' j with g | g
    · exact g1 j' e h1 g h3
    · obtain rfl : j' = j := by omega
      rw [h] at h3; cases h3; exact g2
theorem laterOk_all {l : List Cell} {k : List Nat} {i j : Nat} (hj : l.length ≤ j) : laterOk l k i j ↔ lastAt l i k := by
  constructor
  · intro g j' e h1 h3
    exact g j' e h1 (by have := (List.getElem?_eq_some_iff.1 h3).1; omega) h3
  · intro g j' e h1 _ h3
    exact g j' e h1 h3
theorem withC_pos {l : List Cell} {c : Cell} (h : 0 < l.length) : 0 < (withC l c).length := by
  cases l with
  | nil => exact absurd h (by decide)
  | cons d l =>
    unfold withC
    split
    · unfold withL
      split
      · simp
      · split <;> simp
    · exact h
theorem withL_len (l : List Cell) (c : Cell) : (withL l c).length ≤ l.length + 1 := by
  induction l with
  | nil => simp [withL]
  | cons d l ih =>
    unfold withL
    split
    · simp only [List.length_cons]; omega
    · split <;> simp
theorem withC_len (l : List Cell) (c : Cell) : (withC l c).length ≤ l.length + 1 := by
  unfold withC
  split
  · exact withL_len l c
  · omega
theorem built_len (l : List Cell) : ∀ i, i ≤ l.length → (builtL (l.take i)).length ≤ i
  | 0, _ => by simp [builtL]
  | i + 1, h => by
    have hget : l[i]? = some l[i] := List.getElem?_eq_getElem (by omega)
    rw [builtL_next hget]
    have := withC_len (builtL (l.take i)) l[i]
    have := built_len l i (by omega)
    omega
theorem f22_out {L : List Blk} {i : Nat} {acc : List Cell} (h : L[i]? = some (outB 5 (acc.map Cell.enc))) (hl : acc.length < 4294967295) (c : Cell) :
    FnOk Try.prog 22 [outV (H.key i) 5 acc.length, .agg c.enc] (H.ext L) fun r G => r = outV (H.key L.length) 5 (withC acc c).length ∧ G = H.ext (L ++ [outB 5 ((withC acc c).map Cell.enc)]) := by
  have harr := outB_arr (H := H) h
  rw [List.length_map] at harr
  have key := padF' (xs := (withC acc c).map Cell.enc) (List.length_map ..) (Cell.map_rens · _) (f22_ok harr hl c)
  refine key.mono ?_
  rintro r G ⟨rfl, rfl⟩
  rw [Heap.nx_ext, Heap.ext_append]
  cases acc with
  | nil => exact ⟨rfl, rfl⟩
  | cons x xs =>
    have hp := withC_pos (l := x :: xs) (c := c) (by simp)
    refine ⟨?_, ?_⟩
    · rw [outV_pos hp]; rfl
    · have : outB 5 ((withC (x :: xs) c).map Cell.enc) = .row true 5 ((withC (x :: xs) c).map Cell.enc) := by
        cases hh : withC (x :: xs) c with
        | nil => rw [hh] at hp; exact absurd hp (by decide)
        | cons y ys => rfl
      rw [this]; rfl

theorem f4_ok {v : AV} {l : List Cell} (hA : Arr H 5 v (l.map Cell.enc)) (hl : l.length ≤ 9223372036854775807) :
    FnOk Try.prog 4 [v] H fun r G => r = .bool true ∧ G = H := by
  refine FnOk.assume fun hok => ?_
  refine FnOk.drop (R := fun r => r = .bool true) ?_ (by rintro v rfl ρ; rw [AV.ren])
  refine FnOk.of_WW Try.func4 rfl C4ok R4ok EI good_EI ?_
  simp only [go_sem, C4, Nat.reduceAdd, Nat.reduceSub, Nat.reduceMul, Nat.reduceDiv, Nat.reduceMod, Nat.reduceEqDiff, Nat.reduceLeDiff, Nat.reduceLT, Int.reduceLT, Int.reduceLE, Int.reduceEq, Int.reduceToNat, reduceIte, reduceCtorEq]
  refine CL.one f11_ok ?_
  simp only [go_sem, Nat.reduceAdd, Nat.reduceSub, Nat.reduceMul, Nat.reduceDiv, Nat.reduceMod, Nat.reduceEqDiff, Nat.reduceLeDiff, Nat.reduceLT, Int.reduceLT, Int.reduceLE, Int.reduceEq, Int.reduceToNat, reduceIte, reduceCtorEq]
  refine CL.bool (f12_ok (hA.ext []) hl) (fun h1 => ?_) (fun h1 => ?_)
  have hl3 : l.length ≤ 30 := by have := h1.2; omega
  rcases hA.forms with ⟨rfl, hnil⟩ | ⟨k, off, ex, cap, rfl, hrho⟩
  · have hn0 : l.length = 0 := by simpa using hnil
    simp only [go_sem, Nat.reduceAdd, Nat.reduceSub, Nat.reduceMul, Nat.reduceDiv, Nat.reduceMod, Nat.reduceEqDiff, Nat.reduceLeDiff, Nat.reduceLT, Int.reduceLT, Int.reduceLE, Int.reduceEq, Int.reduceToNat, reduceIte, reduceCtorEq, List.length_nil, List.map_nil, List.length_cons, List.map_cons, List.replicate_succ, List.replicate_zero, List.set_cons_zero, List.take_succ_cons, List.take_zero, List.take_nil, List.length_append, List.map_append, List.cons_append, List.nil_append, List.drop_succ_cons, List.append_nil]
    refine LL.st good_EI (fun i : Nat => l.length - i) (fun i => i ≤ l.length)
      (fun i => [(.z, .nils), ((.o (.o .z)), outV (H.key 0) 5 (builtL (l.take i)).length), ((.i (.o .z)), .int .i64 i)])
      (fun i => [outB 5 ((builtL (l.take i)).map Cell.enc)]) ?_ 0 (σ := [0]) (Wk.mk' rfl (by decide) (by simp only [go_sem, List.length_map, hn0, List.take_zero, builtL, List.foldl_nil, List.length_nil, List.map_nil, Nat.reduceAdd, Nat.reduceSub, Nat.reduceMul, Nat.reduceDiv, Nat.reduceMod, Nat.reduceEqDiff, Nat.reduceLeDiff, Nat.reduceLT, Int.reduceLT, Int.reduceLE, Int.reduceEq, Int.reduceToNat, reduceIte, reduceCtorEq]) (by simp only [go_sem, List.length_map, hn0, List.take_zero, builtL, List.foldl_nil, List.length_nil, List.map_nil, Nat.reduceAdd, Nat.reduceSub, Nat.reduceMul, Nat.reduceDiv, Nat.reduceMod, Nat.reduceEqDiff, Nat.reduceLeDiff, Nat.reduceLT, Int.reduceLT, Int.reduceLE, Int.reduceEq, Int.reduceToNat, reduceIte, reduceCtorEq])) (by omega)
    rintro i hi
    by_cases hlt : i < l.length
    · exact absurd hlt (by omega)
    · have hci : ¬ (i : Int) < (l.length : Int) := by omega
      simp only [go_sem, C4L0, Nat.reduceAdd, Nat.reduceSub, Nat.reduceMul, Nat.reduceDiv, Nat.reduceMod, Nat.reduceEqDiff, Nat.reduceLeDiff, Nat.reduceLT, Int.reduceLT, Int.reduceLE, Int.reduceEq, Int.reduceToNat, reduceIte, reduceCtorEq, List.length_map, hci, show ¬ (i : Int) < 0 by omega]
      rw [take_all (by omega)]
      have hbl := built_len l l.length (Nat.le_refl _)
      rw [List.take_length] at hbl
      have harr : ∀ (L : List Blk), L[0]? = some (outB 5 ((builtL l).map Cell.enc)) → Arr (H.ext L) 5 (outV (H.key 0) 5 (builtL l).length) ((builtL l).map Cell.enc) := fun L h => by
        have := outB_arr (H := H) h
        rwa [List.length_map] at this
      refine CL.bool (f17_ok (harr _ rfl) (by omega)) (fun h2 => ?_) (fun h2 => absurd (builtL_idx l) h2)
      simp only [go_sem, Nat.reduceAdd, Nat.reduceSub, Nat.reduceMul, Nat.reduceDiv, Nat.reduceMod, Nat.reduceEqDiff, Nat.reduceLeDiff, Nat.reduceLT, Int.reduceLT, Int.reduceLE, Int.reduceEq, Int.reduceToNat, reduceIte, reduceCtorEq]
      have hml : (builtL l).length < 4294967296 := by omega
      refine LL.st good_EI (fun i : Nat => l.length - i) (fun i => i ≤ l.length)
        (fun i => [(.z, .nils), ((.o (.o .z)), outV (H.key 0) 5 (builtL l).length), ((.o (.i .z)), .int .i64 (cnt l i)), ((.i (.i .z)), .int .i64 i)])
        (fun i => [outB 5 ((builtL l).map Cell.enc)]) ?_ 0 (σ := [0]) (Wk.mk' rfl (by decide) (by simp only [go_sem, List.length_map, hn0, cnt, List.range_zero, List.filter_nil, List.length_nil, Nat.reduceAdd, Nat.reduceSub, Nat.reduceMul, Nat.reduceDiv, Nat.reduceMod, Nat.reduceEqDiff, Nat.reduceLeDiff, Nat.reduceLT, Int.reduceLT, Int.reduceLE, Int.reduceEq, Int.reduceToNat, reduceIte, reduceCtorEq]) (by intro p hp; simp only [List.zip_cons_cons, List.zip_nil_left, List.mem_singleton] at hp; subst hp; intro _; show _ = some (Blk.ren _ (outB 5 (List.map Cell.enc _))); rw [outB_ren]; first | rfl | (rw [hnew]; rfl))) (by omega)
      clear hlt hci hi
      rintro i hi
      by_cases hlt : i < l.length
      · exact absurd hlt (by omega)
      · have hci : ¬ (i : Int) < (l.length : Int) := by omega
        have hil : i = l.length := by omega
        subst hil
        simp only [go_sem, C4L2, Nat.reduceAdd, Nat.reduceSub, Nat.reduceMul, Nat.reduceDiv, Nat.reduceMod, Nat.reduceEqDiff, Nat.reduceLeDiff, Nat.reduceLT, Int.reduceLT, Int.reduceLE, Int.reduceEq, Int.reduceToNat, reduceIte, reduceCtorEq, List.length_map, hci, show ¬ (l.length : Int) < 0 by omega]
        rw [cnt_built]
        rcases Nat.eq_zero_or_pos (builtL l).length with h0 | h0
        · simp only [go_sem, Nat.reduceAdd, Nat.reduceSub, Nat.reduceMul, Nat.reduceDiv, Nat.reduceMod, Nat.reduceEqDiff, Nat.reduceLeDiff, Nat.reduceLT, Int.reduceLT, Int.reduceLE, Int.reduceEq, Int.reduceToNat, reduceIte, reduceCtorEq, h0, Int.ofNat_zero, eq_self, true_implies, not_true_eq_false, false_implies, and_true, true_and, decide_true]
          first | exact ⟨rfl, _, rfl⟩ | exact ⟨_, rfl⟩
        · simp only [go_sem, Nat.reduceAdd, Nat.reduceSub, Nat.reduceMul, Nat.reduceDiv, Nat.reduceMod, Nat.reduceEqDiff, Nat.reduceLeDiff, Nat.reduceLT, Int.reduceLT, Int.reduceLE, Int.reduceEq, Int.reduceToNat, reduceIte, reduceCtorEq, outV_pos h0, eq_self, true_implies, not_true_eq_false, false_implies, and_true, true_and, decide_true]
          first | exact ⟨rfl, _, rfl⟩ | exact ⟨_, rfl⟩
  · simp only [go_sem, Nat.reduceAdd, Nat.reduceSub, Nat.reduceMul, Nat.reduceDiv, Nat.reduceMod, Nat.reduceEqDiff, Nat.reduceLeDiff, Nat.reduceLT, Int.reduceLT, Int.reduceLE, Int.reduceEq, Int.reduceToNat, reduceIte, reduceCtorEq, List.length_nil, List.map_nil, List.length_cons, List.map_cons, List.replicate_succ, List.replicate_zero, List.set_cons_zero, List.take_succ_cons, List.take_zero, List.take_nil, List.length_append, List.map_append, List.cons_append, List.nil_append, List.drop_succ_cons, List.append_nil]
    refine LL.st good_EI (fun i : Nat => l.length - i) (fun i => i ≤ l.length)
      (fun i => [(.z, .slice k off (l.map Cell.enc).length 5 ex cap), ((.o (.o .z)), outV (H.key 0) 5 (builtL (l.take i)).length), ((.i (.o .z)), .int .i64 i)])
      (fun i => [outB 5 ((builtL (l.take i)).map Cell.enc)]) ?_ 0 (σ := [0]) (Wk.mk' rfl (by decide) (by simp only [go_sem, List.length_map, hrho, List.take_zero, builtL, List.foldl_nil, List.length_nil, List.map_nil, Nat.reduceAdd, Nat.reduceSub, Nat.reduceMul, Nat.reduceDiv, Nat.reduceMod, Nat.reduceEqDiff, Nat.reduceLeDiff, Nat.reduceLT, Int.reduceLT, Int.reduceLE, Int.reduceEq, Int.reduceToNat, reduceIte, reduceCtorEq]) (by simp only [go_sem, List.length_map, hrho, List.take_zero, builtL, List.foldl_nil, List.length_nil, List.map_nil, Nat.reduceAdd, Nat.reduceSub, Nat.reduceMul, Nat.reduceDiv, Nat.reduceMod, Nat.reduceEqDiff, Nat.reduceLeDiff, Nat.reduceLT, Int.reduceLT, Int.reduceLE, Int.reduceEq, Int.reduceToNat, reduceIte, reduceCtorEq])) (by omega)
    rintro i hi
    by_cases hlt : i < l.length
    · obtain ⟨kk, r, ex', cap', wr, rows, hv, hk, hg, _, hat⟩ := hA.pick (j := i) (by simpa using hlt)
      have hrow := hat i (by simpa using hlt)
      have hgo := Heap.get_ext_old hok hg
      have hw := wrap_succ (n := i) (by omega)
      have hci : (i : Int) < (l.length : Int) := by omega
      have hsi : i + 1 ≤ l.length := by omega
      have hget : l[i]? = some l[i] := List.getElem?_eq_getElem hlt
      cases hv
      have hlen := built_len l i hi
      simp only [go_sem, C4L0, Nat.reduceAdd, Nat.reduceSub, Nat.reduceMul, Nat.reduceDiv, Nat.reduceMod, Nat.reduceEqDiff, Nat.reduceLeDiff, Nat.reduceLT, Int.reduceLT, Int.reduceLE, Int.reduceEq, Int.reduceToNat, reduceIte, reduceCtorEq, List.length_map, hw, hgo, hrow, hci, hsi, List.getElem?_eq_getElem hlt, Cell.enc]
      refine CL.of (f22_out (acc := builtL (l.take i)) rfl (by omega) l[i]) ?_
      rintro _ _ ⟨rfl, rfl⟩
      have hnew := builtL_next hget
      simp only [go_sem, Nat.reduceAdd, Nat.reduceSub, Nat.reduceMul, Nat.reduceDiv, Nat.reduceMod, Nat.reduceEqDiff, Nat.reduceLeDiff, Nat.reduceLT, Int.reduceLT, Int.reduceLE, Int.reduceEq, Int.reduceToNat, reduceIte, reduceCtorEq, List.length_map, hw, hgo, hrow, hci, hsi, List.getElem?_eq_getElem hlt, Cell.enc, List.length_nil, List.map_nil, List.length_cons, List.map_cons, List.replicate_succ, List.replicate_zero, List.set_cons_zero, List.take_succ_cons, List.take_zero, List.take_nil, List.length_append, List.map_append, List.cons_append, List.nil_append, List.drop_succ_cons, List.append_nil]
      refine ⟨i + 1, by show l.length - (i + 1) < l.length - i; omega, ?_, _, [1], rfl, Wk.mk' rfl (by decide) (by simp only [go_sem, hrho, List.length_map, hnew, Nat.reduceAdd, Nat.reduceSub, Nat.reduceMul, Nat.reduceDiv, Nat.reduceMod, Nat.reduceEqDiff, Nat.reduceLeDiff, Nat.reduceLT, Int.reduceLT, Int.reduceLE, Int.reduceEq, Int.reduceToNat, reduceIte, reduceCtorEq]) (by intro p hp; simp only [List.zip_cons_cons, List.zip_nil_left, List.mem_singleton] at hp; subst hp; intro _; show _ = some (Blk.ren _ (outB 5 (List.map Cell.enc _))); rw [outB_ren]; first | rfl | (rw [hnew]; rfl))⟩
      omega
    · have hci : ¬ (i : Int) < (l.length : Int) := by omega
      simp only [go_sem, C4L0, Nat.reduceAdd, Nat.reduceSub, Nat.reduceMul, Nat.reduceDiv, Nat.reduceMod, Nat.reduceEqDiff, Nat.reduceLeDiff, Nat.reduceLT, Int.reduceLT, Int.reduceLE, Int.reduceEq, Int.reduceToNat, reduceIte, reduceCtorEq, List.length_map, hci]
      rw [take_all (by omega)]
      have hbl := built_len l l.length (Nat.le_refl _)
      rw [List.take_length] at hbl
      have harr : ∀ (L : List Blk), L[0]? = some (outB 5 ((builtL l).map Cell.enc)) → Arr (H.ext L) 5 (outV (H.key 0) 5 (builtL l).length) ((builtL l).map Cell.enc) := fun L h => by
        have := outB_arr (H := H) h
        rwa [List.length_map] at this
      refine CL.bool (f17_ok (harr _ rfl) (by omega)) (fun h2 => ?_) (fun h2 => absurd (builtL_idx l) h2)
      simp only [go_sem, Nat.reduceAdd, Nat.reduceSub, Nat.reduceMul, Nat.reduceDiv, Nat.reduceMod, Nat.reduceEqDiff, Nat.reduceLeDiff, Nat.reduceLT, Int.reduceLT, Int.reduceLE, Int.reduceEq, Int.reduceToNat, reduceIte, reduceCtorEq]
      have hml : (builtL l).length < 4294967296 := by omega
      refine LL.st good_EI (fun i : Nat => l.length - i) (fun i => i ≤ l.length)
        (fun i => [(.z, .slice k off (l.map Cell.enc).length 5 ex cap), ((.o (.o .z)), outV (H.key 0) 5 (builtL l).length), ((.o (.i .z)), .int .i64 (cnt l i)), ((.i (.i .z)), .int .i64 i)])
        (fun i => [outB 5 ((builtL l).map Cell.enc)]) ?_ 0 (σ := [0]) (Wk.mk' rfl (by decide) (by simp only [go_sem, List.length_map, hrho, cnt, List.range_zero, List.filter_nil, List.length_nil, Nat.reduceAdd, Nat.reduceSub, Nat.reduceMul, Nat.reduceDiv, Nat.reduceMod, Nat.reduceEqDiff, Nat.reduceLeDiff, Nat.reduceLT, Int.reduceLT, Int.reduceLE, Int.reduceEq, Int.reduceToNat, reduceIte, reduceCtorEq]) (by intro p hp; simp only [List.zip_cons_cons, List.zip_nil_left, List.mem_singleton] at hp; subst hp; intro _; show _ = some (Blk.ren _ (outB 5 (List.map Cell.enc _))); rw [outB_ren]; first | rfl | (rw [hnew]; rfl))) (by omega)
      clear hlt hci hi
      rintro i hi
      by_cases hlt : i < l.length
      · obtain ⟨kk, r, ex', cap', wr, rows, hv, hk, hg, _, hat⟩ := hA.pick (j := i) (by simpa using hlt)
        have hrow := hat i (by simpa using hlt)
        have hgo := Heap.get_ext_old hok hg
        have hw := wrap_succ (n := i) (by omega)
        have hci : (i : Int) < (l.length : Int) := by omega
        have hsi : i + 1 ≤ l.length := by omega
        have hget : l[i]? = some l[i] := List.getElem?_eq_getElem hlt
        cases hv
        simp only [go_sem, C4L2, Nat.reduceAdd, Nat.reduceSub, Nat.reduceMul, Nat.reduceDiv, Nat.reduceMod, Nat.reduceEqDiff, Nat.reduceLeDiff, Nat.reduceLT, Int.reduceLT, Int.reduceLE, Int.reduceEq, Int.reduceToNat, reduceIte, reduceCtorEq, List.length_map, hw, hgo, hrow, hci, hsi, List.getElem?_eq_getElem hlt, Cell.enc]
        have hl0 : laterOk l l[i].key i (i + 1) := fun j' d h1 h2 => by omega
        have hw2 : ((i + 1 : Nat) : Int) = (i : Int) + 1 := by omega
        refine LL.st good_EI (fun j : Nat => l.length - j) (fun j => i < j ∧ j ≤ l.length)
          (fun j => [(.z, .slice k (r * 5) (l.map Cell.enc).length 5 ex cap), ((.o (.o .z)), outV (H.key 0) 5 (builtL l).length), ((.o (.i .z)), .int .i64 (cnt l i)), ((.i (.i .z)), .int .i64 i), ((.o (.o (.o .z))), .bool (decide (laterOk l l[i].key i j))), ((.i (.o (.o .z))), .int .i64 j)])
          (fun j => [outB 5 ((builtL l).map Cell.enc)]) ?_ (i + 1) (σ := [0]) (Wk.mk' rfl (by decide) (by simp only [go_sem, hrho, List.length_map, hl0, decide_true, Nat.reduceAdd, Nat.reduceSub, Nat.reduceMul, Nat.reduceDiv, Nat.reduceMod, Nat.reduceEqDiff, Nat.reduceLeDiff, Nat.reduceLT, Int.reduceLT, Int.reduceLE, Int.reduceEq, Int.reduceToNat, reduceIte, reduceCtorEq]) (by intro p hp; simp only [List.zip_cons_cons, List.zip_nil_left, List.mem_singleton] at hp; subst hp; intro _; show _ = some (Blk.ren _ (outB 5 (List.map Cell.enc _))); rw [outB_ren]; first | rfl | (rw [hnew]; rfl))) ⟨by omega, by omega⟩
        rintro j ⟨hij, hjl⟩
        by_cases hltj : j < l.length
        · have hrowj := hat j (by simpa using hltj)
          have hwj := wrap_succ (n := j) (by omega)
          have hcij : (j : Int) < (l.length : Int) := by omega
          have hsij : j + 1 ≤ l.length := by omega
          have hgetj : l[j]? = some l[j] := List.getElem?_eq_getElem hltj
          have hnx := laterOk_next (k := l[i].key) hgetj hij
          have hnext : ∀ (b : Bool), b = decide (laterOk l l[i].key i (j + 1)) → True := fun _ _ => trivial
          by_cases hok1 : laterOk l l[i].key i j
          · simp only [go_sem, C4L1, Nat.reduceAdd, Nat.reduceSub, Nat.reduceMul, Nat.reduceDiv, Nat.reduceMod, Nat.reduceEqDiff, Nat.reduceLeDiff, Nat.reduceLT, Int.reduceLT, Int.reduceLE, Int.reduceEq, Int.reduceToNat, reduceIte, reduceCtorEq, List.length_map, hw, hgo, hrow, hci, hsi, List.getElem?_eq_getElem hlt, Cell.enc, hrowj, hwj, hcij, hsij, hgetj, hok1, decide_true, e24']
            refine ⟨fun a1 => ⟨fun a2 => ?_, fun a2 => ?_⟩, fun a1 => ?_⟩
            · have hnew : decide (laterOk l l[i].key i (j + 1)) = false := decide_eq_false fun h => (hnx.1 h).2 ⟨a1, a2⟩
              refine ⟨j + 1, by show l.length - (j + 1) < l.length - j; omega, ⟨by omega, by omega⟩, _, [0], rfl, Wk.mk' rfl (by decide) (by simp only [go_sem, hrho, List.length_map, hnew, Nat.reduceAdd, Nat.reduceSub, Nat.reduceMul, Nat.reduceDiv, Nat.reduceMod, Nat.reduceEqDiff, Nat.reduceLeDiff, Nat.reduceLT, Int.reduceLT, Int.reduceLE, Int.reduceEq, Int.reduceToNat, reduceIte, reduceCtorEq]) (by intro p hp; simp only [List.zip_cons_cons, List.zip_nil_left, List.mem_singleton] at hp; subst hp; intro _; show _ = some (Blk.ren _ (outB 5 (List.map Cell.enc _))); rw [outB_ren]; first | rfl | (rw [hnew]; rfl))⟩
            · have hnew : decide (laterOk l l[i].key i (j + 1)) = true := decide_eq_true (hnx.2 ⟨hok1, fun h => a2 h.2⟩)
              refine ⟨j + 1, by show l.length - (j + 1) < l.length - j; omega, ⟨by omega, by omega⟩, _, [0], rfl, Wk.mk' rfl (by decide) (by simp only [go_sem, hrho, List.length_map, hnew, Nat.reduceAdd, Nat.reduceSub, Nat.reduceMul, Nat.reduceDiv, Nat.reduceMod, Nat.reduceEqDiff, Nat.reduceLeDiff, Nat.reduceLT, Int.reduceLT, Int.reduceLE, Int.reduceEq, Int.reduceToNat, reduceIte, reduceCtorEq]) (by intro p hp; simp only [List.zip_cons_cons, List.zip_nil_left, List.mem_singleton] at hp; subst hp; intro _; show _ = some (Blk.ren _ (outB 5 (List.map Cell.enc _))); rw [outB_ren]; first | rfl | (rw [hnew]; rfl))⟩
            · have hnew : decide (laterOk l l[i].key i (j + 1)) = true := decide_eq_true (hnx.2 ⟨hok1, fun h => a1 h.1⟩)
              refine ⟨j + 1, by show l.length - (j + 1) < l.length - j; omega, ⟨by omega, by omega⟩, _, [0], rfl, Wk.mk' rfl (by decide) (by simp only [go_sem, hrho, List.length_map, hnew, Nat.reduceAdd, Nat.reduceSub, Nat.reduceMul, Nat.reduceDiv, Nat.reduceMod, Nat.reduceEqDiff, Nat.reduceLeDiff, Nat.reduceLT, Int.reduceLT, Int.reduceLE, Int.reduceEq, Int.reduceToNat, reduceIte, reduceCtorEq]) (by intro p hp; simp only [List.zip_cons_cons, List.zip_nil_left, List.mem_singleton] at hp; subst hp; intro _; show _ = some (Blk.ren _ (outB 5 (List.map Cell.enc _))); rw [outB_ren]; first | rfl | (rw [hnew]; rfl))⟩
          · simp only [go_sem, C4L1, Nat.reduceAdd, Nat.reduceSub, Nat.reduceMul, Nat.reduceDiv, Nat.reduceMod, Nat.reduceEqDiff, Nat.reduceLeDiff, Nat.reduceLT, Int.reduceLT, Int.reduceLE, Int.reduceEq, Int.reduceToNat, reduceIte, reduceCtorEq, List.length_map, hw, hgo, hrow, hci, hsi, List.getElem?_eq_getElem hlt, Cell.enc, hrowj, hwj, hcij, hsij, hgetj, hok1, decide_false, e24']
            have hnew : decide (laterOk l l[i].key i (j + 1)) = false := decide_eq_false fun h => hok1 (hnx.1 h).1
            refine ⟨j + 1, by show l.length - (j + 1) < l.length - j; omega, ⟨by omega, by omega⟩, _, [0], rfl, Wk.mk' rfl (by decide) (by simp only [go_sem, hrho, List.length_map, hnew, Nat.reduceAdd, Nat.reduceSub, Nat.reduceMul, Nat.reduceDiv, Nat.reduceMod, Nat.reduceEqDiff, Nat.reduceLeDiff, Nat.reduceLT, Int.reduceLT, Int.reduceLE, Int.reduceEq, Int.reduceToNat, reduceIte, reduceCtorEq]) (by intro p hp; simp only [List.zip_cons_cons, List.zip_nil_left, List.mem_singleton] at hp; subst hp; intro _; show _ = some (Blk.ren _ (outB 5 (List.map Cell.enc _))); rw [outB_ren]; first | rfl | (rw [hnew]; rfl))⟩
        · have hcj : ¬ (j : Int) < (l.length : Int) := by omega
          have hgood : goodAt l i ↔ cellIs l[i] ∧ laterOk l l[i].key i j := by
            rw [laterOk_all (by omega)]
            exact ⟨fun ⟨c, g1, g2, g3⟩ => by rw [hget] at g1; cases g1; exact ⟨g2, g3⟩, fun ⟨g2, g3⟩ => ⟨_, hget, g2, g3⟩⟩
          have hci1 := cnt_le l i
          have hwc := wrap_succ (n := cnt l i) (by omega)
          by_cases hg : laterOk l l[i].key i j
          · simp only [go_sem, C4L1, Nat.reduceAdd, Nat.reduceSub, Nat.reduceMul, Nat.reduceDiv, Nat.reduceMod, Nat.reduceEqDiff, Nat.reduceLeDiff, Nat.reduceLT, Int.reduceLT, Int.reduceLE, Int.reduceEq, Int.reduceToNat, reduceIte, reduceCtorEq, List.length_map, hw, hgo, hrow, hci, hsi, List.getElem?_eq_getElem hlt, Cell.enc, hcj, hg, decide_true]
            refine CL.bool (f24_ok l[i]) (fun h3 => ?_) (fun h3 => ?_)
            · have hnew := cnt_yes (hgood.2 ⟨h3, hg⟩)
              have hf := f13_ok (harr [outB 5 ((builtL l).map Cell.enc)] rfl) hml l[i].key
              rw [built_get hget h3 ((laterOk_all (by omega)).1 hg)] at hf
              simp only [go_sem, Nat.reduceAdd, Nat.reduceSub, Nat.reduceMul, Nat.reduceDiv, Nat.reduceMod, Nat.reduceEqDiff, Nat.reduceLeDiff, Nat.reduceLT, Int.reduceLT, Int.reduceLE, Int.reduceEq, Int.reduceToNat, reduceIte, reduceCtorEq, List.length_map, hw, hgo, hrow, hci, hsi, List.getElem?_eq_getElem hlt, Cell.enc, List.length_nil, List.map_nil, List.length_cons, List.map_cons, List.replicate_succ, List.replicate_zero, List.set_cons_zero, List.take_succ_cons, List.take_zero, List.take_nil, List.length_append, List.map_append, List.cons_append, List.nil_append, List.drop_succ_cons, List.append_nil, hwc]
              refine CL.of hf ?_
              rintro _ _ ⟨rfl, rfl⟩
              simp only [go_sem, Nat.reduceAdd, Nat.reduceSub, Nat.reduceMul, Nat.reduceDiv, Nat.reduceMod, Nat.reduceEqDiff, Nat.reduceLeDiff, Nat.reduceLT, Int.reduceLT, Int.reduceLE, Int.reduceEq, Int.reduceToNat, reduceIte, reduceCtorEq, List.length_map, hw, hgo, hrow, hci, hsi, List.getElem?_eq_getElem hlt, Cell.enc, List.length_nil, List.map_nil, List.length_cons, List.map_cons, List.replicate_succ, List.replicate_zero, List.set_cons_zero, List.take_succ_cons, List.take_zero, List.take_nil, List.length_append, List.map_append, List.cons_append, List.nil_append, List.drop_succ_cons, List.append_nil, eq_self, true_implies, not_true_eq_false, false_implies, and_true, true_and, decide_true]
              refine ⟨i + 1, by show l.length - (i + 1) < l.length - i; omega, ?_, _, [0], rfl, Wk.mk' rfl (by decide) (by simp only [go_sem, hrho, List.length_map, hnew, Nat.reduceAdd, Nat.reduceSub, Nat.reduceMul, Nat.reduceDiv, Nat.reduceMod, Nat.reduceEqDiff, Nat.reduceLeDiff, Nat.reduceLT, Int.reduceLT, Int.reduceLE, Int.reduceEq, Int.reduceToNat, reduceIte, reduceCtorEq]) (by intro p hp; simp only [List.zip_cons_cons, List.zip_nil_left, List.mem_singleton] at hp; subst hp; intro _; show _ = some (Blk.ren _ (outB 5 (List.map Cell.enc _))); rw [outB_ren]; first | rfl | (rw [hnew]; rfl))⟩
              omega
            · have hnew := cnt_no (l := l) (i := i) fun h => h3 (hgood.1 h).1
              simp only [go_sem, Nat.reduceAdd, Nat.reduceSub, Nat.reduceMul, Nat.reduceDiv, Nat.reduceMod, Nat.reduceEqDiff, Nat.reduceLeDiff, Nat.reduceLT, Int.reduceLT, Int.reduceLE, Int.reduceEq, Int.reduceToNat, reduceIte, reduceCtorEq, List.length_map, hw, hgo, hrow, hci, hsi, List.getElem?_eq_getElem hlt, Cell.enc, List.length_nil, List.map_nil, List.length_cons, List.map_cons, List.replicate_succ, List.replicate_zero, List.set_cons_zero, List.take_succ_cons, List.take_zero, List.take_nil, List.length_append, List.map_append, List.cons_append, List.nil_append, List.drop_succ_cons, List.append_nil]
              refine ⟨i + 1, by show l.length - (i + 1) < l.length - i; omega, ?_, _, [0], rfl, Wk.mk' rfl (by decide) (by simp only [go_sem, hrho, List.length_map, hnew, Nat.reduceAdd, Nat.reduceSub, Nat.reduceMul, Nat.reduceDiv, Nat.reduceMod, Nat.reduceEqDiff, Nat.reduceLeDiff, Nat.reduceLT, Int.reduceLT, Int.reduceLE, Int.reduceEq, Int.reduceToNat, reduceIte, reduceCtorEq]) (by intro p hp; simp only [List.zip_cons_cons, List.zip_nil_left, List.mem_singleton] at hp; subst hp; intro _; show _ = some (Blk.ren _ (outB 5 (List.map Cell.enc _))); rw [outB_ren]; first | rfl | (rw [hnew]; rfl))⟩
              omega
          · simp only [go_sem, C4L1, Nat.reduceAdd, Nat.reduceSub, Nat.reduceMul, Nat.reduceDiv, Nat.reduceMod, Nat.reduceEqDiff, Nat.reduceLeDiff, Nat.reduceLT, Int.reduceLT, Int.reduceLE, Int.reduceEq, Int.reduceToNat, reduceIte, reduceCtorEq, List.length_map, hw, hgo, hrow, hci, hsi, List.getElem?_eq_getElem hlt, Cell.enc, hcj, hg, decide_false]
            refine CL.bool (f24_ok l[i]) (fun h3 => ?_) (fun h3 => ?_)
            · have hnew := cnt_no (l := l) (i := i) fun h => hg (hgood.1 h).2
              simp only [go_sem, Nat.reduceAdd, Nat.reduceSub, Nat.reduceMul, Nat.reduceDiv, Nat.reduceMod, Nat.reduceEqDiff, Nat.reduceLeDiff, Nat.reduceLT, Int.reduceLT, Int.reduceLE, Int.reduceEq, Int.reduceToNat, reduceIte, reduceCtorEq, List.length_map, hw, hgo, hrow, hci, hsi, List.getElem?_eq_getElem hlt, Cell.enc, List.length_nil, List.map_nil, List.length_cons, List.map_cons, List.replicate_succ, List.replicate_zero, List.set_cons_zero, List.take_succ_cons, List.take_zero, List.take_nil, List.length_append, List.map_append, List.cons_append, List.nil_append, List.drop_succ_cons, List.append_nil]
              refine ⟨i + 1, by show l.length - (i + 1) < l.length - i; omega, ?_, _, [0], rfl, Wk.mk' rfl (by decide) (by simp only [go_sem, hrho, List.length_map, hnew, Nat.reduceAdd, Nat.reduceSub, Nat.reduceMul, Nat.reduceDiv, Nat.reduceMod, Nat.reduceEqDiff, Nat.reduceLeDiff, Nat.reduceLT, Int.reduceLT, Int.reduceLE, Int.reduceEq, Int.reduceToNat, reduceIte, reduceCtorEq]) (by intro p hp; simp only [List.zip_cons_cons, List.zip_nil_left, List.mem_singleton] at hp; subst hp; intro _; show _ = some (Blk.ren _ (outB 5 (List.map Cell.enc _))); rw [outB_ren]; first | rfl | (rw [hnew]; rfl))⟩
              omega
            · have hnew := cnt_no (l := l) (i := i) fun h => hg (hgood.1 h).2
              simp only [go_sem, Nat.reduceAdd, Nat.reduceSub, Nat.reduceMul, Nat.reduceDiv, Nat.reduceMod, Nat.reduceEqDiff, Nat.reduceLeDiff, Nat.reduceLT, Int.reduceLT, Int.reduceLE, Int.reduceEq, Int.reduceToNat, reduceIte, reduceCtorEq, List.length_map, hw, hgo, hrow, hci, hsi, List.getElem?_eq_getElem hlt, Cell.enc, List.length_nil, List.map_nil, List.length_cons, List.map_cons, List.replicate_succ, List.replicate_zero, List.set_cons_zero, List.take_succ_cons, List.take_zero, List.take_nil, List.length_append, List.map_append, List.cons_append, List.nil_append, List.drop_succ_cons, List.append_nil]
              refine ⟨i + 1, by show l.length - (i + 1) < l.length - i; omega, ?_, _, [0], rfl, Wk.mk' rfl (by decide) (by simp only [go_sem, hrho, List.length_map, hnew, Nat.reduceAdd, Nat.reduceSub, Nat.reduceMul, Nat.reduceDiv, Nat.reduceMod, Nat.reduceEqDiff, Nat.reduceLeDiff, Nat.reduceLT, Int.reduceLT, Int.reduceLE, Int.reduceEq, Int.reduceToNat, reduceIte, reduceCtorEq]) (by intro p hp; simp only [List.zip_cons_cons, List.zip_nil_left, List.mem_singleton] at hp; subst hp; intro _; show _ = some (Blk.ren _ (outB 5 (List.map Cell.enc _))); rw [outB_ren]; first | rfl | (rw [hnew]; rfl))⟩
              omega
      · have hci : ¬ (i : Int) < (l.length : Int) := by omega
        have hil : i = l.length := by omega
        subst hil
        simp only [go_sem, C4L2, Nat.reduceAdd, Nat.reduceSub, Nat.reduceMul, Nat.reduceDiv, Nat.reduceMod, Nat.reduceEqDiff, Nat.reduceLeDiff, Nat.reduceLT, Int.reduceLT, Int.reduceLE, Int.reduceEq, Int.reduceToNat, reduceIte, reduceCtorEq, List.length_map, hci]
        rw [cnt_built]
        rcases Nat.eq_zero_or_pos (builtL l).length with h0 | h0
        · simp only [go_sem, Nat.reduceAdd, Nat.reduceSub, Nat.reduceMul, Nat.reduceDiv, Nat.reduceMod, Nat.reduceEqDiff, Nat.reduceLeDiff, Nat.reduceLT, Int.reduceLT, Int.reduceLE, Int.reduceEq, Int.reduceToNat, reduceIte, reduceCtorEq, h0, Int.ofNat_zero, eq_self, true_implies, not_true_eq_false, false_implies, and_true, true_and, decide_true]
          first | exact ⟨rfl, _, rfl⟩ | exact ⟨_, rfl⟩
        · simp only [go_sem, Nat.reduceAdd, Nat.reduceSub, Nat.reduceMul, Nat.reduceDiv, Nat.reduceMod, Nat.reduceEqDiff, Nat.reduceLeDiff, Nat.reduceLT, Int.reduceLT, Int.reduceLE, Int.reduceEq, Int.reduceToNat, reduceIte, reduceCtorEq, outV_pos h0, eq_self, true_implies, not_true_eq_false, false_implies, and_true, true_and, decide_true]
          first | exact ⟨rfl, _, rfl⟩ | exact ⟨_, rfl⟩
  · simp only [go_sem, Nat.reduceAdd, Nat.reduceSub, Nat.reduceMul, Nat.reduceDiv, Nat.reduceMod, Nat.reduceEqDiff, Nat.reduceLeDiff, Nat.reduceLT, Int.reduceLT, Int.reduceLE, Int.reduceEq, Int.reduceToNat, reduceIte, reduceCtorEq, List.length_nil, List.map_nil, List.length_cons, List.map_cons, List.replicate_succ, List.replicate_zero, List.set_cons_zero, List.take_succ_cons, List.take_zero, List.take_nil, List.length_append, List.map_append, List.cons_append, List.nil_append, List.drop_succ_cons, List.append_nil]
    exact ⟨_, rfl⟩

end Go.Proofs
