/- index: the law that both ways tell the same, walked. -/
import Derived.Test.YtiadcabmonbgiaaX4Z
set_option linter.all false
set_option maxRecDepth 100000
namespace Go.Proofs
open Go Go.Ev
variable {H : Heap}

theorem filter_all {c : Cell} : ∀ (l : List Cell) (a : List Cell), (∀ d ∈ l, d.key ≠ c.key) → l.foldl (stepW c) (a, true) = (a ++ l, true)
  | [], a, _ => by simp
  | d :: l, a, h => by
    have h1 := h d (by simp)
    rw [List.foldl_cons, show stepW c (a, true) d = (a ++ [d], true) by simp [stepW, h1], filter_all l _ fun x hx => h x (by simp [hx])]
    simp
theorem fold_withL {c : Cell} : ∀ (l : List Cell) (a : List Cell), List.Pairwise (fun x y => ltS x.key y.key) l → (if (l.foldl (stepW c) (a, false)).2 then (l.foldl (stepW c) (a, false)).1 else (l.foldl (stepW c) (a, false)).1 ++ [c]) = a ++ withL l c
  | [], a, _ => by simp [withL]
  | d :: l, a, h => by
    rw [List.pairwise_cons] at h
    rw [List.foldl_cons, withL]
    by_cases h1 : ltS d.key c.key
    · have hne : d.key ≠ c.key := fun e => ltS_irrefl _ (e ▸ h1)
      rw [show stepW c (a, false) d = (a ++ [d], false) by simp [stepW, h1, hne], fold_withL l _ h.2, if_pos h1]
      simp
    · rw [if_neg h1]
      by_cases h2 : d.key = c.key
      · rw [show stepW c (a, false) d = (a ++ [c], true) by simp [stepW, h2, ltS_irrefl], filter_all l _ (fun x hx e => ltS_irrefl _ (show ltS c.key c.key by have := h.1 x hx; rw [e, h2] at this; exact this)), if_pos h2]
        simp
      · have h3 : ltS c.key d.key := by rcases ltS_tri d.key c.key with g | g | g; exact absurd g h1; exact absurd g h2; exact g
        rw [show stepW c (a, false) d = (a ++ [c] ++ [d], true) by simp [stepW, h1, h2], filter_all l _ (fun x hx e => ltS_irrefl _ (show ltS c.key c.key by have := ltS_trans h3 (h.1 x hx); rw [e] at this; exact this)), if_neg h2]
        simp
theorem isIdx_pair {l : List Cell} (h : isIdx l) : List.Pairwise (fun x y => ltS x.key y.key) l := by
  have key : ∀ (n i : Nat) (c d : Cell), l[i]? = some c → l[i + n + 1]? = some d → ltS c.key d.key := by
    intro n
    induction n with
    | zero =>
      intro i c d hc hd
      obtain ⟨d', h1, _, h2⟩ := h (i + 1) (List.getElem?_eq_some_iff.1 hd).1
      rw [show i + 0 + 1 = i + 1 from rfl, h1] at hd; cases hd
      obtain ⟨c', h3, h4⟩ := h2 (by omega)
      rw [Nat.add_sub_cancel, hc] at h3; cases h3
      exact h4
    | succ n ih =>
      intro i c d hc hd
      have hi := (List.getElem?_eq_some_iff.1 hd).1
      obtain ⟨e, he⟩ : ∃ e, l[i + 1]? = some e := ⟨_, List.getElem?_eq_getElem (by omega)⟩
      obtain ⟨e', h1, _, h2⟩ := h (i + 1) (by omega)
      rw [he] at h1; cases h1
      obtain ⟨c', h3, h4⟩ := h2 (by omega)
      rw [Nat.add_sub_cancel, hc] at h3; cases h3
      exact ltS_trans h4 (ih (i + 1) e d he (by rw [← hd]; congr 1; omega))
  rw [List.pairwise_iff_getElem]
  intro i j hi hj hij
  exact key (j - i - 1) i _ _ (List.getElem?_eq_getElem hi) (by rw [show i + (j - i - 1) + 1 = j by omega]; exact List.getElem?_eq_getElem hj)
theorem refW_eq {l : List Cell} (h : isIdx l) (c : Cell) : refW l c = withL l c := fold_withL l [] (isIdx_pair h)
theorem arr_lit {L : List Blk} {esz i n : Nat} {wr ex : Bool} {cap : Nat} {xs : List (List AV)} (h : L[i]? = some (.row wr esz xs)) (hn : n = xs.length) : Arr (H.ext L) esz (.slice (H.key i) 0 n esz ex cap) xs := by
  subst hn
  have hi := (List.getElem?_eq_some_iff.1 h).1
  refine .inr ⟨H.key i, 0, ex, cap, rfl, ?_, fun _ => ⟨0, wr, xs, by simp, ?_, by simp⟩⟩
  · rw [Heap.nx_ext, Heap.toNat_key, Heap.toNat_key]; omega
  · rw [Heap.get_ext_key _ _ _ hi, h]
theorem f3_ok {v : AV} {l : List Cell} (hA : Arr H 5 v (l.map Cell.enc)) (hl : l.length ≤ 9223372036854775807) (c : Cell) (key f t : List Nat) (n : Int) :
    FnOk Try.prog 3 [v, .agg c.enc, .str key, .agg [.str f, .str t], .int .i64 n] H fun r G => r = .bool true ∧ G = H := by
  refine FnOk.assume fun hok => ?_
  refine FnOk.drop (R := fun r => r = .bool true) ?_ (by rintro v rfl ρ; rw [AV.ren])
  refine FnOk.of_WW Try.func3 rfl C3ok R3ok EI good_EI ?_
  simp only [go_sem, C3, Nat.reduceAdd, Nat.reduceSub, Nat.reduceMul, Nat.reduceDiv, Nat.reduceMod, Nat.reduceEqDiff, Nat.reduceLeDiff, Nat.reduceLT, Int.reduceLT, Int.reduceLE, Int.reduceEq, Int.reduceToNat, reduceIte, reduceCtorEq, Cell.enc]
  refine CL.one f11_ok ?_
  simp only [go_sem, Nat.reduceAdd, Nat.reduceSub, Nat.reduceMul, Nat.reduceDiv, Nat.reduceMod, Nat.reduceEqDiff, Nat.reduceLeDiff, Nat.reduceLT, Int.reduceLT, Int.reduceLE, Int.reduceEq, Int.reduceToNat, reduceIte, reduceCtorEq]
  refine CL.bool (f12_ok (hA.ext _) hl) (fun h1 => ?_) (fun h1 => ?_)
  · simp only [go_sem, Nat.reduceAdd, Nat.reduceSub, Nat.reduceMul, Nat.reduceDiv, Nat.reduceMod, Nat.reduceEqDiff, Nat.reduceLeDiff, Nat.reduceLT, Int.reduceLT, Int.reduceLE, Int.reduceEq, Int.reduceToNat, reduceIte, reduceCtorEq, List.length_nil, List.map_nil, List.length_cons, List.map_cons, List.replicate_succ, List.replicate_zero, List.set_cons_zero, List.take_succ_cons, List.take_zero, List.take_nil, List.length_append, List.map_append, List.cons_append, List.nil_append, List.drop_succ_cons, List.append_nil]
    refine CL.bool (f12_ok (l := [c]) (arr_lit rfl rfl) (by simp)) (fun h2 => ?_) (fun h2 => ?_)
    · simp only [go_sem, Nat.reduceAdd, Nat.reduceSub, Nat.reduceMul, Nat.reduceDiv, Nat.reduceMod, Nat.reduceEqDiff, Nat.reduceLeDiff, Nat.reduceLT, Int.reduceLT, Int.reduceLE, Int.reduceEq, Int.reduceToNat, reduceIte, reduceCtorEq, List.length_nil, List.map_nil, List.length_cons, List.map_cons, List.replicate_succ, List.replicate_zero, List.set_cons_zero, List.take_succ_cons, List.take_zero, List.take_nil, List.length_append, List.map_append, List.cons_append, List.nil_append, List.drop_succ_cons, List.append_nil]
      have hl3 : l.length < 4294967295 := by have := h1.2; omega
      have hl4 : l.length < 4294967296 := by omega
      refine ⟨fun _ => ⟨_, rfl⟩, fun h3 => ⟨fun _ => ⟨_, rfl⟩, fun h4 => ⟨fun _ => ⟨_, rfl⟩, fun h5 => ?_⟩⟩⟩
      refine CL.of (f13_ok (hA.ext _) hl4 key) ?_
      rintro _ _ ⟨rfl, rfl⟩
      simp only [go_sem, Nat.reduceAdd, Nat.reduceSub, Nat.reduceMul, Nat.reduceDiv, Nat.reduceMod, Nat.reduceEqDiff, Nat.reduceLeDiff, Nat.reduceLT, Int.reduceLT, Int.reduceLE, Int.reduceEq, Int.reduceToNat, reduceIte, reduceCtorEq, List.length_nil, List.map_nil, List.length_cons, List.map_cons, List.replicate_succ, List.replicate_zero, List.set_cons_zero, List.take_succ_cons, List.take_zero, List.take_nil, List.length_append, List.map_append, List.cons_append, List.nil_append, List.drop_succ_cons, List.append_nil, Cell.enc]
      refine CL.of (f14_ok (hA.ext _) hl4 key) ?_
      rintro _ _ ⟨rfl, rfl⟩
      simp only [go_sem, Nat.reduceAdd, Nat.reduceSub, Nat.reduceMul, Nat.reduceDiv, Nat.reduceMod, Nat.reduceEqDiff, Nat.reduceLeDiff, Nat.reduceLT, Int.reduceLT, Int.reduceLE, Int.reduceEq, Int.reduceToNat, reduceIte, reduceCtorEq, List.length_nil, List.map_nil, List.length_cons, List.map_cons, List.replicate_succ, List.replicate_zero, List.set_cons_zero, List.take_succ_cons, List.take_zero, List.take_nil, List.length_append, List.map_append, List.cons_append, List.nil_append, List.drop_succ_cons, List.append_nil, Cell.enc]
      rw [e15 (hA.ext _) hl3]
      simp only [go_sem, Nat.reduceAdd, Nat.reduceSub, Nat.reduceMul, Nat.reduceDiv, Nat.reduceMod, Nat.reduceEqDiff, Nat.reduceLeDiff, Nat.reduceLT, Int.reduceLT, Int.reduceLE, Int.reduceEq, Int.reduceToNat, reduceIte, reduceCtorEq, List.length_nil, List.map_nil, List.length_cons, List.map_cons, List.replicate_succ, List.replicate_zero, List.set_cons_zero, List.take_succ_cons, List.take_zero, List.take_nil, List.length_append, List.map_append, List.cons_append, List.nil_append, List.drop_succ_cons, List.append_nil, Cell.enc]
      rw [e16 (hA.ext _) hl3]
      simp only [go_sem, Nat.reduceAdd, Nat.reduceSub, Nat.reduceMul, Nat.reduceDiv, Nat.reduceMod, Nat.reduceEqDiff, Nat.reduceLeDiff, Nat.reduceLT, Int.reduceLT, Int.reduceLE, Int.reduceEq, Int.reduceToNat, reduceIte, reduceCtorEq, List.length_nil, List.map_nil, List.length_cons, List.map_cons, List.replicate_succ, List.replicate_zero, List.set_cons_zero, List.take_succ_cons, List.take_zero, List.take_nil, List.length_append, List.map_append, List.cons_append, List.nil_append, List.drop_succ_cons, List.append_nil, Cell.enc]
      have hwl : (withinL f t l).length < 4294967295 := Nat.lt_of_le_of_lt (List.length_filter_le _ _) hl3
      have hrl : (refW l c).length < 4294967295 := by
        have := runW_len c l l.length (Nat.le_refl _)
        rw [List.take_length] at this
        have h30 := h1.2
        unfold refW
        split
        · split at this <;> omega
        · rw [List.length_append, List.length_cons, List.length_nil]; split at this <;> omega
      have i20 : ∀ L, EI 20 [v, .agg [.str f, .str t]] (H.ext L) = .ok (outV (H.key L.length) 5 (withinL f t l).length) (H.ext (L ++ [outB 5 ((withinL f t l).map Cell.enc)])) := fun L => by rw [e20 (hA.ext L) hl3, Heap.nx_ext, Heap.ext_append]
      have i21 : ∀ L, EI 21 [v, .agg [.str f, .str t]] (H.ext L) = .ok (outV (H.key L.length) 5 (withinL f t l).length) (H.ext (L ++ [outB 5 ((withinL f t l).map Cell.enc)])) := fun L => by rw [e21 (hA.ext L) hl3, Heap.nx_ext, Heap.ext_append]
      have i19 : ∀ (L : List Blk) (a b : Nat) (xs : List Cell), L[a]? = some (outB 5 (xs.map Cell.enc)) → L[b]? = some (outB 5 (xs.map Cell.enc)) → xs.length < 4294967295 → EI 19 [outV (H.key a) 5 xs.length, outV (H.key b) 5 xs.length] (H.ext L) = .ok (.bool true) (H.ext L) := by
        intro L a b xs ha hb hx
        have h1 := outB_arr (H := H) ha
        have h2 := outB_arr (H := H) hb
        rw [List.length_map] at h1 h2
        rw [e19 h1 hx h2 hx, decide_eq_true rfl]
      have i19f : ∀ (L : List Blk) (a b : Nat) (xs : List Cell), L[a]? = some (frB v 5 (xs.map Cell.enc)) → L[b]? = some (outB 5 (xs.map Cell.enc)) → xs.length < 4294967295 → EI 19 [frV v (H.key a) 5 xs.length, outV (H.key b) 5 xs.length] (H.ext L) = .ok (.bool true) (H.ext L) := by
        intro L a b xs ha hb hx
        have h1 := frB_arr (H := H) ha
        have h2 := outB_arr (H := H) hb
        rw [List.length_map] at h1 h2
        rw [e19 h1 hx h2 hx, decide_eq_true rfl]
      have i19v : ∀ (L : List Blk) (a : Nat), L[a]? = some (frB v 5 (l.map Cell.enc)) → EI 19 [frV v (H.key a) 5 l.length, v] (H.ext L) = .ok (.bool true) (H.ext L) := by
        intro L a ha
        have h1 := frB_arr (H := H) ha
        rw [List.length_map] at h1
        rw [e19 h1 hl3 (hA.ext L) hl3, decide_eq_true rfl]
      have hvr : ∀ (top : Nat) (σ : List Nat), v.ren (rho H top σ) = v := by
        intro top σ
        rcases hA.forms with ⟨rfl, _⟩ | ⟨k, off, ex, cap, rfl, hrho⟩
        · rw [AV.ren]
        · rw [AV.ren, hrho]
      have hrs : (rowsL f t n l).length ≤ l.length := by
        unfold rowsL
        rw [List.length_take]
        exact Nat.le_trans (Nat.min_le_right _ _) (List.length_filter_le _ _)
      revert hrs
      generalize rowsL f t n l = rs
      intro hrs
      rcases Nat.eq_zero_or_pos rs.length with h0 | h0
      · obtain rfl := List.length_eq_zero_iff.1 h0
        simp only [go_sem, Nat.reduceAdd, Nat.reduceSub, Nat.reduceMul, Nat.reduceDiv, Nat.reduceMod, Nat.reduceEqDiff, Nat.reduceLeDiff, Nat.reduceLT, Int.reduceLT, Int.reduceLE, Int.reduceEq, Int.reduceToNat, reduceIte, reduceCtorEq, List.length_nil, List.map_nil, List.length_cons, List.map_cons, List.replicate_succ, List.replicate_zero, List.set_cons_zero, List.take_succ_cons, List.take_zero, List.take_nil, List.length_append, List.map_append, List.cons_append, List.nil_append, List.drop_succ_cons, List.append_nil, eq_self, true_implies, not_true_eq_false, false_implies, and_true, true_and, decide_true]
        refine LL.st good_EI (fun i : Nat => 0) (fun i => True)
          (fun i => [(.z, v), ((.i (.i .z)), .ptr (H.key 0) 0), ((.i (.o (.o .z))), .ptr (H.key 1) 0), ((.o (.o (.i .z))), .ptr (H.key 2) 0), ((.i (.o (.i .z))), .bool (getL l key).2), ((.o (.i (.i .z))), .ptr (H.key 3) 0), ((.i (.i (.i .z))), .bool (getL l key).2), ((.o (.o (.o (.o .z)))), .nils), ((.i (.o (.o (.o .z)))), .nils), ((.o (.i (.o (.o .z)))), .int .i64 0)])
          (fun i => [.row true 5 [[.str c.key, .str c.value, .int .i64 c.ver, .bool c.del, .int .i64 c.floor]], .row true 2 [[.str f, .str t]], .row true 5 [[.str (getL l key).fst.key, .str (getL l key).fst.value, .int .i64 (getL l key).fst.ver, .bool (getL l key).fst.del, .int .i64 (getL l key).fst.floor]], .row true 5 [[.str (getL l key).fst.key, .str (getL l key).fst.value, .int .i64 (getL l key).fst.ver, .bool (getL l key).fst.del, .int .i64 (getL l key).fst.floor]]]) ?_ 0 (σ := [0, 1, 3, 4]) (Wk.mk' rfl (by decide) (by simp only [go_sem, hvr, Nat.reduceAdd, Nat.reduceSub, Nat.reduceMul, Nat.reduceDiv, Nat.reduceMod, Nat.reduceEqDiff, Nat.reduceLeDiff, Nat.reduceLT, Int.reduceLT, Int.reduceLE, Int.reduceEq, Int.reduceToNat, reduceIte, reduceCtorEq]) (by simp only [go_sem, hvr, Nat.reduceAdd, Nat.reduceSub, Nat.reduceMul, Nat.reduceDiv, Nat.reduceMod, Nat.reduceEqDiff, Nat.reduceLeDiff, Nat.reduceLT, Int.reduceLT, Int.reduceLE, Int.reduceEq, Int.reduceToNat, reduceIte, reduceCtorEq])) trivial
        rintro i -
        simp only [go_sem, C3L0, Nat.reduceAdd, Nat.reduceSub, Nat.reduceMul, Nat.reduceDiv, Nat.reduceMod, Nat.reduceEqDiff, Nat.reduceLeDiff, Nat.reduceLT, Int.reduceLT, Int.reduceLE, Int.reduceEq, Int.reduceToNat, reduceIte, reduceCtorEq, List.length_nil, List.map_nil, List.length_cons, List.map_cons, List.replicate_succ, List.replicate_zero, List.set_cons_zero, List.take_succ_cons, List.take_zero, List.take_nil, List.length_append, List.map_append, List.cons_append, List.nil_append, List.drop_succ_cons, List.append_nil]
        by_cases hi : isIdx l
        · have i17 : ∀ L, EI 17 [v] (H.ext L) = .ok (.bool true) (H.ext L) := fun L => by rw [e17 (hA.ext L) hl3, decide_eq_true hi]
          have i18 : ∀ L, EI 18 [v] (H.ext L) = .ok (.bool true) (H.ext L) := fun L => by rw [e18 (hA.ext L) hl3, decide_eq_true hi]
          have i22 : ∀ L, EI 22 [v, .agg [.str c.key, .str c.value, .int .i64 c.ver, .bool c.del, .int .i64 c.floor]] (H.ext L) = .ok (frV v (H.key L.length) 5 (withC l c).length) (H.ext (L ++ [frB v 5 ((withC l c).map Cell.enc)])) := fun L => by rw [e22 (hA.ext L) hl3, Heap.nx_ext, Heap.ext_append]
          by_cases hc : cellIs c
          · have hwc : withC l c = refW l c := by rw [withC, if_pos hc, refW_eq hi]
            have i23 : ∀ L, EI 23 [v, .agg [.str c.key, .str c.value, .int .i64 c.ver, .bool c.del, .int .i64 c.floor]] (H.ext L) = .ok (outV (H.key L.length) 5 (refW l c).length) (H.ext (L ++ [outB 5 ((refW l c).map Cell.enc)])) := fun L => by rw [e23 (hA.ext L) hl3, if_pos hc, Heap.nx_ext, Heap.ext_append]
            simp only [go_sem, Nat.reduceAdd, Nat.reduceSub, Nat.reduceMul, Nat.reduceDiv, Nat.reduceMod, Nat.reduceEqDiff, Nat.reduceLeDiff, Nat.reduceLT, Int.reduceLT, Int.reduceLE, Int.reduceEq, Int.reduceToNat, reduceIte, reduceCtorEq, List.length_nil, List.map_nil, List.length_cons, List.map_cons, List.replicate_succ, List.replicate_zero, List.set_cons_zero, List.take_succ_cons, List.take_zero, List.take_nil, List.length_append, List.map_append, List.cons_append, List.nil_append, List.drop_succ_cons, List.append_nil, i17, i18, i20, i21, i22, i23, i19, i19f, hwc, hrl, hwl, eq_self, true_implies, not_true_eq_false, false_implies, and_true, true_and, decide_true]
            exact ⟨_, rfl⟩
          · have hwc : withC l c = l := by rw [withC, if_neg hc]
            have i23 : ∀ L, EI 23 [v, .agg [.str c.key, .str c.value, .int .i64 c.ver, .bool c.del, .int .i64 c.floor]] (H.ext L) = .ok v (H.ext L) := fun L => by rw [e23 (hA.ext L) hl3, if_neg hc]
            simp only [go_sem, Nat.reduceAdd, Nat.reduceSub, Nat.reduceMul, Nat.reduceDiv, Nat.reduceMod, Nat.reduceEqDiff, Nat.reduceLeDiff, Nat.reduceLT, Int.reduceLT, Int.reduceLE, Int.reduceEq, Int.reduceToNat, reduceIte, reduceCtorEq, List.length_nil, List.map_nil, List.length_cons, List.map_cons, List.replicate_succ, List.replicate_zero, List.set_cons_zero, List.take_succ_cons, List.take_zero, List.take_nil, List.length_append, List.map_append, List.cons_append, List.nil_append, List.drop_succ_cons, List.append_nil, i17, i18, i20, i21, i22, i23, i19, i19v, hwc, hrl, hwl, eq_self, true_implies, not_true_eq_false, false_implies, and_true, true_and, decide_true]
            exact ⟨_, rfl⟩
        · have i17 : ∀ L, EI 17 [v] (H.ext L) = .ok (.bool false) (H.ext L) := fun L => by rw [e17 (hA.ext L) hl3, decide_eq_false hi]
          have i18 : ∀ L, EI 18 [v] (H.ext L) = .ok (.bool false) (H.ext L) := fun L => by rw [e18 (hA.ext L) hl3, decide_eq_false hi]
          simp only [go_sem, Nat.reduceAdd, Nat.reduceSub, Nat.reduceMul, Nat.reduceDiv, Nat.reduceMod, Nat.reduceEqDiff, Nat.reduceLeDiff, Nat.reduceLT, Int.reduceLT, Int.reduceLE, Int.reduceEq, Int.reduceToNat, reduceIte, reduceCtorEq, List.length_nil, List.map_nil, List.length_cons, List.map_cons, List.replicate_succ, List.replicate_zero, List.set_cons_zero, List.take_succ_cons, List.take_zero, List.take_nil, List.length_append, List.map_append, List.cons_append, List.nil_append, List.drop_succ_cons, List.append_nil, i17, i18, i20, i21, i19, hrl, hwl, eq_self, true_implies, not_true_eq_false, false_implies, and_true, true_and, decide_true]
          exact ⟨_, rfl⟩

      · have hB : outB 3 (rs.map Cell.row) = .row true 3 (rs.map Cell.row) := by cases rs with | nil => exact absurd h0 (by decide) | cons x xs => rfl
        have h30 := h1.2
        have hq1 : rho H 7 [0, 1, 3, 4, 5, 6] (H.key 4) = H.key 5 := rho_key rfl
        have hq2 : rho H 7 [0, 1, 3, 4, 5, 6] (H.key 5) = H.key 6 := rho_key rfl
        have hq3 : rho H 6 [0, 1, 2, 3, 4, 5] (H.key 4) = H.key 4 := rho_key rfl
        have hq4 : rho H 6 [0, 1, 2, 3, 4, 5] (H.key 5) = H.key 5 := rho_key rfl
        simp only [go_sem, Nat.reduceAdd, Nat.reduceSub, Nat.reduceMul, Nat.reduceDiv, Nat.reduceMod, Nat.reduceEqDiff, Nat.reduceLeDiff, Nat.reduceLT, Int.reduceLT, Int.reduceLE, Int.reduceEq, Int.reduceToNat, reduceIte, reduceCtorEq, List.length_nil, List.map_nil, List.length_cons, List.map_cons, List.replicate_succ, List.replicate_zero, List.set_cons_zero, List.take_succ_cons, List.take_zero, List.take_nil, List.length_append, List.map_append, List.cons_append, List.nil_append, List.drop_succ_cons, List.append_nil, eq_self, true_implies, not_true_eq_false, false_implies, and_true, true_and, decide_true, outV_pos h0, hB]
        refine LL.st good_EI (fun i : Nat => rs.length - i) (fun i => i ≤ rs.length)
          (fun i => [(.z, v), ((.i (.i .z)), .ptr (H.key 0) 0), ((.i (.o (.o .z))), .ptr (H.key 1) 0), ((.o (.o (.i .z))), .ptr (H.key 2) 0), ((.i (.o (.i .z))), .bool (getL l key).2), ((.o (.i (.i .z))), .ptr (H.key 3) 0), ((.i (.i (.i .z))), .bool (getL l key).2), ((.o (.o (.o (.o .z)))), .slice (H.key 4) 0 rs.length 3 false rs.length), ((.i (.o (.o (.o .z)))), .slice (H.key 5) 0 rs.length 3 false rs.length), ((.o (.i (.o (.o .z)))), .int .i64 i)])
          (fun i => [.row true 5 [[.str c.key, .str c.value, .int .i64 c.ver, .bool c.del, .int .i64 c.floor]], .row true 2 [[.str f, .str t]], .row true 5 [[.str (getL l key).fst.key, .str (getL l key).fst.value, .int .i64 (getL l key).fst.ver, .bool (getL l key).fst.del, .int .i64 (getL l key).fst.floor]], .row true 5 [[.str (getL l key).fst.key, .str (getL l key).fst.value, .int .i64 (getL l key).fst.ver, .bool (getL l key).fst.del, .int .i64 (getL l key).fst.floor]], .row true 3 (rs.map Cell.row), .row true 3 (rs.map Cell.row)]) ?_ 0 (σ := [0, 1, 3, 4, 5, 6]) (Wk.mk' rfl (by decide) (by simp only [go_sem, hvr, Cell.map_row, hq1, hq2, hq3, hq4, Nat.reduceAdd, Nat.reduceSub, Nat.reduceMul, Nat.reduceDiv, Nat.reduceMod, Nat.reduceEqDiff, Nat.reduceLeDiff, Nat.reduceLT, Int.reduceLT, Int.reduceLE, Int.reduceEq, Int.reduceToNat, reduceIte, reduceCtorEq]) (by simp only [go_sem, hvr, Cell.map_row, hq1, hq2, hq3, hq4, Nat.reduceAdd, Nat.reduceSub, Nat.reduceMul, Nat.reduceDiv, Nat.reduceMod, Nat.reduceEqDiff, Nat.reduceLeDiff, Nat.reduceLT, Int.reduceLT, Int.reduceLE, Int.reduceEq, Int.reduceToNat, reduceIte, reduceCtorEq])) (by omega)
        rintro i hi0
        by_cases hlt : i < rs.length
        · have hw := wrap_succ (n := i) (by omega)
          have hci : (i : Int) < (rs.length : Int) := by omega
          have hsi : i + 1 ≤ rs.length := by omega
          have hget : rs[i]? = some rs[i] := List.getElem?_eq_getElem hlt
          have hmi : (rs.map Cell.row)[i]? = some rs[i].row := by rw [List.getElem?_map, hget]; rfl
          simp only [go_sem, C3L0, Nat.reduceAdd, Nat.reduceSub, Nat.reduceMul, Nat.reduceDiv, Nat.reduceMod, Nat.reduceEqDiff, Nat.reduceLeDiff, Nat.reduceLT, Int.reduceLT, Int.reduceLE, Int.reduceEq, Int.reduceToNat, reduceIte, reduceCtorEq, List.length_nil, List.map_nil, List.length_cons, List.map_cons, List.replicate_succ, List.replicate_zero, List.set_cons_zero, List.take_succ_cons, List.take_zero, List.take_nil, List.length_append, List.map_append, List.cons_append, List.nil_append, List.drop_succ_cons, List.append_nil, hw, hci, hsi, hmi, hget, Cell.row, eq_self, true_implies, not_true_eq_false, false_implies, and_true, true_and, decide_true]
          refine ⟨i + 1, by show rs.length - (i + 1) < rs.length - i; omega, ?_, _, [0, 1, 2, 3, 4, 5], rfl, Wk.mk' rfl (by decide) (by simp only [go_sem, hvr, Cell.map_row, hq1, hq2, hq3, hq4, Nat.reduceAdd, Nat.reduceSub, Nat.reduceMul, Nat.reduceDiv, Nat.reduceMod, Nat.reduceEqDiff, Nat.reduceLeDiff, Nat.reduceLT, Int.reduceLT, Int.reduceLE, Int.reduceEq, Int.reduceToNat, reduceIte, reduceCtorEq]) (by simp only [go_sem, hvr, Cell.map_row, hq1, hq2, hq3, hq4, Nat.reduceAdd, Nat.reduceSub, Nat.reduceMul, Nat.reduceDiv, Nat.reduceMod, Nat.reduceEqDiff, Nat.reduceLeDiff, Nat.reduceLT, Int.reduceLT, Int.reduceLE, Int.reduceEq, Int.reduceToNat, reduceIte, reduceCtorEq])⟩
          omega
        · have hci : ¬ (i : Int) < (rs.length : Int) := by omega
          simp only [go_sem, C3L0, Nat.reduceAdd, Nat.reduceSub, Nat.reduceMul, Nat.reduceDiv, Nat.reduceMod, Nat.reduceEqDiff, Nat.reduceLeDiff, Nat.reduceLT, Int.reduceLT, Int.reduceLE, Int.reduceEq, Int.reduceToNat, reduceIte, reduceCtorEq, List.length_nil, List.map_nil, List.length_cons, List.map_cons, List.replicate_succ, List.replicate_zero, List.set_cons_zero, List.take_succ_cons, List.take_zero, List.take_nil, List.length_append, List.map_append, List.cons_append, List.nil_append, List.drop_succ_cons, List.append_nil, hci]
          by_cases hi : isIdx l
          · have i17 : ∀ L, EI 17 [v] (H.ext L) = .ok (.bool true) (H.ext L) := fun L => by rw [e17 (hA.ext L) hl3, decide_eq_true hi]
            have i18 : ∀ L, EI 18 [v] (H.ext L) = .ok (.bool true) (H.ext L) := fun L => by rw [e18 (hA.ext L) hl3, decide_eq_true hi]
            have i22 : ∀ L, EI 22 [v, .agg [.str c.key, .str c.value, .int .i64 c.ver, .bool c.del, .int .i64 c.floor]] (H.ext L) = .ok (frV v (H.key L.length) 5 (withC l c).length) (H.ext (L ++ [frB v 5 ((withC l c).map Cell.enc)])) := fun L => by rw [e22 (hA.ext L) hl3, Heap.nx_ext, Heap.ext_append]
            by_cases hc : cellIs c
            · have hwc : withC l c = refW l c := by rw [withC, if_pos hc, refW_eq hi]
              have i23 : ∀ L, EI 23 [v, .agg [.str c.key, .str c.value, .int .i64 c.ver, .bool c.del, .int .i64 c.floor]] (H.ext L) = .ok (outV (H.key L.length) 5 (refW l c).length) (H.ext (L ++ [outB 5 ((refW l c).map Cell.enc)])) := fun L => by rw [e23 (hA.ext L) hl3, if_pos hc, Heap.nx_ext, Heap.ext_append]
              simp only [go_sem, Nat.reduceAdd, Nat.reduceSub, Nat.reduceMul, Nat.reduceDiv, Nat.reduceMod, Nat.reduceEqDiff, Nat.reduceLeDiff, Nat.reduceLT, Int.reduceLT, Int.reduceLE, Int.reduceEq, Int.reduceToNat, reduceIte, reduceCtorEq, List.length_nil, List.map_nil, List.length_cons, List.map_cons, List.replicate_succ, List.replicate_zero, List.set_cons_zero, List.take_succ_cons, List.take_zero, List.take_nil, List.length_append, List.map_append, List.cons_append, List.nil_append, List.drop_succ_cons, List.append_nil, i17, i18, i20, i21, i22, i23, i19, i19f, hwc, hrl, hwl, eq_self, true_implies, not_true_eq_false, false_implies, and_true, true_and, decide_true]
              exact ⟨_, rfl⟩
            · have hwc : withC l c = l := by rw [withC, if_neg hc]
              have i23 : ∀ L, EI 23 [v, .agg [.str c.key, .str c.value, .int .i64 c.ver, .bool c.del, .int .i64 c.floor]] (H.ext L) = .ok v (H.ext L) := fun L => by rw [e23 (hA.ext L) hl3, if_neg hc]
              simp only [go_sem, Nat.reduceAdd, Nat.reduceSub, Nat.reduceMul, Nat.reduceDiv, Nat.reduceMod, Nat.reduceEqDiff, Nat.reduceLeDiff, Nat.reduceLT, Int.reduceLT, Int.reduceLE, Int.reduceEq, Int.reduceToNat, reduceIte, reduceCtorEq, List.length_nil, List.map_nil, List.length_cons, List.map_cons, List.replicate_succ, List.replicate_zero, List.set_cons_zero, List.take_succ_cons, List.take_zero, List.take_nil, List.length_append, List.map_append, List.cons_append, List.nil_append, List.drop_succ_cons, List.append_nil, i17, i18, i20, i21, i22, i23, i19, i19v, hwc, hrl, hwl, eq_self, true_implies, not_true_eq_false, false_implies, and_true, true_and, decide_true]
              exact ⟨_, rfl⟩
          · have i17 : ∀ L, EI 17 [v] (H.ext L) = .ok (.bool false) (H.ext L) := fun L => by rw [e17 (hA.ext L) hl3, decide_eq_false hi]
            have i18 : ∀ L, EI 18 [v] (H.ext L) = .ok (.bool false) (H.ext L) := fun L => by rw [e18 (hA.ext L) hl3, decide_eq_false hi]
            simp only [go_sem, Nat.reduceAdd, Nat.reduceSub, Nat.reduceMul, Nat.reduceDiv, Nat.reduceMod, Nat.reduceEqDiff, Nat.reduceLeDiff, Nat.reduceLT, Int.reduceLT, Int.reduceLE, Int.reduceEq, Int.reduceToNat, reduceIte, reduceCtorEq, List.length_nil, List.map_nil, List.length_cons, List.map_cons, List.replicate_succ, List.replicate_zero, List.set_cons_zero, List.take_succ_cons, List.take_zero, List.take_nil, List.length_append, List.map_append, List.cons_append, List.nil_append, List.drop_succ_cons, List.append_nil, i17, i18, i20, i21, i19, hrl, hwl, eq_self, true_implies, not_true_eq_false, false_implies, and_true, true_and, decide_true]
            exact ⟨_, rfl⟩

    · simp only [go_sem, Nat.reduceAdd, Nat.reduceSub, Nat.reduceMul, Nat.reduceDiv, Nat.reduceMod, Nat.reduceEqDiff, Nat.reduceLeDiff, Nat.reduceLT, Int.reduceLT, Int.reduceLE, Int.reduceEq, Int.reduceToNat, reduceIte, reduceCtorEq, List.length_nil, List.map_nil, List.length_cons, List.map_cons, List.replicate_succ, List.replicate_zero, List.set_cons_zero, List.take_succ_cons, List.take_zero, List.take_nil, List.length_append, List.map_append, List.cons_append, List.nil_append, List.drop_succ_cons, List.append_nil]
      exact ⟨_, rfl⟩
  · simp only [go_sem, Nat.reduceAdd, Nat.reduceSub, Nat.reduceMul, Nat.reduceDiv, Nat.reduceMod, Nat.reduceEqDiff, Nat.reduceLeDiff, Nat.reduceLT, Int.reduceLT, Int.reduceLE, Int.reduceEq, Int.reduceToNat, reduceIte, reduceCtorEq, List.length_nil, List.map_nil, List.length_cons, List.map_cons, List.replicate_succ, List.replicate_zero, List.set_cons_zero, List.take_succ_cons, List.take_zero, List.take_nil, List.length_append, List.map_append, List.cons_append, List.nil_append, List.drop_succ_cons, List.append_nil]
    exact ⟨_, rfl⟩

end Go.Proofs
