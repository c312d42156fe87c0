/- index: the law that both ways tell the same, walked. -/
import Derived.Test.YtiadcabmonbgiaaZ12
set_option linter.all false
set_option maxRecDepth 100000
namespace Go.Proofs
open Go Go.Ev
variable {H : Heap}

theorem filter_all {c : Cell} : ∀ (l : List Cell) (a : List Cell), (∀ d ∈ l, d.key ≠ c.key) → l.foldl (stepW c) (a, true) = (a ++ l, true)
  | [], a, _ => by simp
  | d :: l, a, h => by
    have h1 := h d (by simp)
    rw [List.foldl_cons, show stepW c (a, true) d = (a ++ [d], true) by simp [stepW, h1], filter_all l _ fun x hx => h x (by simp [hx])]
    simp
theorem fold_withL {c : Cell} : ∀ (l : List Cell) (a : List Cell), List.Pairwise (fun x y => ltS x.key y.key) l → (if (l.foldl (stepW c) (a, false)).2 then (l.foldl (stepW c) (a, false)).1 else (l.foldl (stepW c) (a, false)).1 ++ [c]) = a ++ withL l c
  | [], a, _ => by simp [withL]
  | d :: l, a, h => by
    rw [List.pairwise_cons] at h
    rw [List.foldl_cons, withL]
    by_cases h1 : ltS d.key c.key
    · have hne : d.key ≠ c.key := fun e => ltS_irrefl _ (e ▸ h1)
      rw [show stepW c (a, false) d = (a ++ [d], false) by simp [stepW, h1, hne], fold_withL l _ h.2, if_pos h1]
      simp
    · rw [if_neg h1]
      by_cases h2 : d.key = c.key
      · rw [show stepW c (a, false) d = (a ++ [c], true) by simp [stepW, h2, ltS_irrefl], filter_all l _ (fun x hx e => ltS_irrefl _ (show ltS c.key c.key by have := h.1 x hx; rw [e, h2] at this; exact this)), if_pos h2]
        simp
      · have h3 : ltS c.key d.key := by rcases ltS_tri d.key c.key with g | g | g; exact absurd g h1; exact absurd g h2; exact g
        rw [show stepW c (a, false) d = (a ++ [c] ++ [d], true) by simp [stepW, h1, h2], filter_all l _ (fun x hx e => ltS_irrefl _ (show ltS c.key c.key by have := ltS_trans h3 (h.1 x hx); rw [e] at this; exact this)), if_neg h2]
        simp
theorem isIdx_pair {l : List Cell} (h : isIdx l) : List.Pairwise (fun x y => ltS x.key y.key) l := by
  have key : ∀ (n i : Nat) (c d : Cell), l[i]? = some c → l[i + n + 1]? = some d → ltS c.key d.key := by
    intro n
    induction n with
    | zero =>
      intro i c d hc hd
      obtain ⟨d', h1, _, h2⟩ := h (i + 1) (List.getElem?_eq_some_iff.1 hd).1
      rw [show i + 0 + 1 = i + 1 from rfl, h1] at hd; cases hd
      obtain ⟨c', h3, h4⟩ := h2 (by omega)
      rw [Nat.add_sub_cancel, hc] at h3; cases h3
      exact h4
    | succ n ih =>
      intro i c d hc hd
      have hi := (List.getElem?_eq_some_iff.1 hd).1
      obtain ⟨e, he⟩ : ∃ e, l[i + 1]? = some e := ⟨_, List.getElem?_eq_getElem (by omega)⟩
      obtain ⟨e', h1, _, h2⟩ := h (i + 1) (by omega)
      rw [he] at h1; cases h1
      obtain ⟨c', h3, h4⟩ := h2 (by omega)
      rw [Nat.add_sub_cancel, hc] at h3; cases h3
      exact ltS_trans h4 (ih (i + 1) e d he (by rw [← hd]; congr 1; omega))
  rw [List.pairwise_iff_getElem]
  intro i j hi hj hij
  exact key (j - i - 1) i _ _ (List.getElem?_eq_getElem hi) (by rw [show i + (j - i - 1) + 1 = j by omega]; exact List.getElem?_eq_getElem hj)
theorem refW_eq {l : List Cell} (h : isIdx l) (c : Cell) : refW l c = withL l c := fold_withL l [] (isIdx_pair h)
theorem arr_lit {L : List Blk} {esz i n : Nat} {wr ex : Bool} {cap : Nat} {xs : List (List AV)} (h : L[i]? = some (.row wr esz xs)) (hn : n = xs.length) : Arr (H.ext L) esz (.slice (H.key i) 0 n esz ex cap) xs := by
  subst hn
  have hi := (List.getElem?_eq_some_iff.1 h).1
  refine .inr ⟨H.key i, 0, ex, cap, rfl, ?_, fun _ => ⟨0, wr, xs, by simp, ?_, by simp⟩⟩
  · rw [Heap.nx_ext, Heap.toNat_key, Heap.toNat_key]; omega
  · rw [Heap.get_ext_key _ _ _ hi, h]
theorem f3_ok {v : AV} {l : List Cell} (hA : Arr H 5 v (l.map Cell.enc)) (hl : l.length ≤ 9223372036854775807) (c : Cell) (key f t : List Nat) (n : Int) :
    FnOk Try.prog 3 [v, .agg c.enc, .str key, .agg [.str f, .str t], .int .i64 n] H fun r G => r = .bool true ∧ G = H := by
  refine FnOk.assume fun hok => ?_
  refine FnOk.drop (R := fun r => r = .bool true) ?_ (by rintro v rfl ρ; rw [AV.ren])
  refine FnOk.of_WW Try.func3 rfl C3ok R3ok EI good_EI ?_
  simp only [go_sem, C3, Nat.reduceAdd, Nat.reduceSub, Nat.reduceMul, Nat.reduceDiv, Nat.reduceMod, Nat.reduceEqDiff, Nat.reduceLeDiff, Nat.reduceLT, Int.reduceLT, Int.reduceLE, Int.reduceEq, Int.reduceToNat, reduceIte, reduceCtorEq, Cell.enc]
  refine CL.one f11_ok ?_
  simp only [go_sem, Nat.reduceAdd, Nat.reduceSub, Nat.reduceMul, Nat.reduceDiv, Nat.reduceMod, Nat.reduceEqDiff, Nat.reduceLeDiff, Nat.reduceLT, Int.reduceLT, Int.reduceLE, Int.reduceEq, Int.reduceToNat, reduceIte, reduceCtorEq]
  refine CL.bool (f12_ok (hA.ext _) hl) (fun h1 => ?_) (fun h1 => ?_)
  · simp only [go_sem, Nat.reduceAdd, Nat.reduceSub, Nat.reduceMul, Nat.reduceDiv, Nat.reduceMod, Nat.reduceEqDiff, Nat.reduceLeDiff, Nat.reduceLT, Int.reduceLT, Int.reduceLE, Int.reduceEq, Int.reduceToNat, reduceIte, reduceCtorEq, List.length_nil, List.map_nil, List.length_cons, List.map_cons, List.replicate_succ, List.replicate_zero, List.set_cons_zero, List.take_succ_cons, List.take_zero, List.take_nil, List.length_append, List.map_append, List.cons_append, List.nil_append, List.drop_succ_cons, List.append_nil]
    refine CL.bool (f12_ok (l := [c]) (arr_lit rfl rfl) (by simp)) (fun h2 => ?_) (fun h2 => ?_)
    · simp only [go_sem, Nat.reduceAdd, Nat.reduceSub, Nat.reduceMul, Nat.reduceDiv, Nat.reduceMod, Nat.reduceEqDiff, Nat.reduceLeDiff, Nat.reduceLT, Int.reduceLT, Int.reduceLE, Int.reduceEq, Int.reduceToNat, reduceIte, reduceCtorEq, List.length_nil, List.map_nil, List.length_cons, List.map_cons, List.replicate_succ, List.replicate_zero, List.set_cons_zero, List.take_succ_cons, List.take_zero, List.take_nil, List.length_append, List.map_append, List.cons_append, List.nil_append, List.drop_succ_cons, List.append_nil]
      have hl3 : l.length < 4294967295 := by have := h1.2; omega
      have hl4 : l.length < 4294967296 := by omega
      refine ⟨fun _ => ⟨_, rfl⟩, fun h3 => ⟨fun _ => ⟨_, rfl⟩, fun h4 => ⟨fun _ => ⟨_, rfl⟩, fun h5 => ?_⟩⟩⟩
      refine CL.of (f13_ok (hA.ext _) hl4 key) ?_
      rintro _ _ ⟨rfl, rfl⟩
      simp only [go_sem, Nat.reduceAdd, Nat.reduceSub, Nat.reduceMul, Nat.reduceDiv, Nat.reduceMod, Nat.reduceEqDiff, Nat.reduceLeDiff, Nat.reduceLT, Int.reduceLT, Int.reduceLE, Int.reduceEq, Int.reduceToNat, reduceIte, reduceCtorEq, List.length_nil, List.map_nil, List.length_cons, List.map_cons, List.replicate_succ, List.replicate_zero, List.set_cons_zero, List.take_succ_cons, List.take_zero, List.take_nil, List.length_append, List.map_append, List.cons_append, List.nil_append, List.drop_succ_cons, List.append_nil, Cell.enc]
      refine CL.of (f14_ok (hA.ext _) hl4 key) ?_
      rintro _ _ ⟨rfl, rfl⟩
      simp only [go_sem, Nat.reduceAdd, Nat.reduceSub, Nat.reduceMul, Nat.reduceDiv, Nat.reduceMod, Nat.reduceEqDiff, Nat.reduceLeDiff, Nat.reduceLT, Int.reduceLT, Int.reduceLE, Int.reduceEq, Int.reduceToNat, reduceIte, reduceCtorEq, List.length_nil, List.map_nil, List.length_cons, List.map_cons, List.replicate_succ, List.replicate_zero, List.set_cons_zero, List.take_succ_cons, List.take_zero, List.take_nil, List.length_append, List.map_append, List.cons_append, List.nil_append, List.drop_succ_cons, List.append_nil, Cell.enc]
      rw [e15 (hA.ext _) hl3]
      simp only [go_sem, Nat.reduceAdd, Nat.reduceSub, Nat.reduceMul, Nat.reduceDiv, Nat.reduceMod, Nat.reduceEqDiff, Nat.reduceLeDiff, Nat.reduceLT, Int.reduceLT, Int.reduceLE, Int.reduceEq, Int.reduceToNat, reduceIte, reduceCtorEq, List.length_nil, List.map_nil, List.length_cons, List.map_cons, List.replicate_succ, List.replicate_zero, List.set_cons_zero, List.take_succ_cons, List.take_zero, List.take_nil, List.length_append, List.map_append, List.cons_append, List.nil_append, List.drop_succ_cons, List.append_nil, Cell.enc]
      rw [e16 (hA.ext _) hl3]
      simp only [go_sem, Nat.reduceAdd, Nat.reduceSub, Nat.reduceMul, Nat.reduceDiv, Nat.reduceMod, Nat.reduceEqDiff, Nat.reduceLeDiff, Nat.reduceLT, Int.reduceLT, Int.reduceLE, Int.reduceEq, Int.reduceToNat, reduceIte, reduceCtorEq, List.length_nil, List.map_nil, List.length_cons, List.map_cons, List.replicate_succ, List.replicate_zero, List.set_cons_zero, List.take_succ_cons, List.take_zero, List.take_nil, List.length_append, List.map_append, List.cons_append, List.nil_append, List.drop_succ_cons, List.append_nil, Cell.enc]
      have hwl : (withinL f t l).length < 4294967295 := Nat.lt_of_le_of_lt (List.length_filter_le _ _) hl3
      have hrl : (refW l c).length < 4294967295 := by
        have := runW_len c l l.length (Nat.le_refl _)
        rw [List.take_length] at this
        have h30 := h1.2
        unfold refW
        split
        · split at this <;> omega
        · rw [List.length_append, List.length_cons, List.length_nil]; split at this <;> omega
      have i20 : ∀ L, EI 20 [v, .agg [.str f, .str t]] (H.ext L) = .ok (outV (H.key L.length) 5 (withinL f t l).length) (H.ext (L ++ [outB 5 ((withinL f t l).map Cell.enc)])) := fun L => by rw [e20 (hA.ext L) hl3, Heap.nx_ext, Heap.ext_append]
      have i21 : ∀ L, EI 21 [v, .agg [.str f, .str t]] (H.ext L) = .ok (outV (H.key L.length) 5 (withinL f t l).length) (H.ext (L ++ [outB 5 ((withinL f t l).map Cell.enc)])) := fun L => by rw [e21 (hA.ext L) hl3, Heap.nx_ext, Heap.ext_append]
      have i19 : ∀ (L : List Blk) (a b : Nat) (xs : List Cell), L[a]? = some (outB 5 (xs.map Cell.enc)) → L[b]? = some (outB 5 (xs.map Cell.enc)) → xs.length < 4294967295 → EI 19 [outV (H.key a) 5 xs.length, outV (H.key b) 5 xs.length] (H.ext L) = .ok (.bool true) (H.ext L) := by
        intro L a b xs ha hb hx
        have h1 := outB_arr (H := H) ha
        have h2 := outB_arr (H := H) hb
        rw [List.length_map] at h1 h2
        rw [e19 h1 hx h2 hx, decide_eq_true rfl]
      have i19f : ∀ (L : List Blk) (a b : Nat) (xs : List Cell), L[a]? = some (frB v 5 (xs.map Cell.enc)) → L[b]? = some (outB 5 (xs.map Cell.enc)) → xs.length < 4294967295 → EI 19 [frV v (H.key a) 5 xs.length, outV (H.key b) 5 xs.length] (H.ext L) = .ok (.bool true) (H.ext L) := by
        intro L a b xs ha hb hx
        have h1 := frB_arr (H := H) ha
        have h2 := outB_arr (H := H) hb
        rw [List.length_map] at h1 h2
        rw [e19 h1 hx h2 hx, decide_eq_true rfl]
      have i19v : ∀ (L : List Blk) (a : Nat), L[a]? = some (frB v 5 (l.map Cell.enc)) → EI 19 [frV v (H.key a) 5 l.length, v] (H.ext L) = .ok (.bool true) (H.ext L) := by
        intro L a ha
        have h1 := frB_arr (H := H) ha
        rw [List.length_map] at h1
        rw [e19 h1 hl3 (hA.ext L) hl3, decide_eq_true rfl]
      have hvr : ∀ (top : Nat) (σ : List Nat), v.ren (rho H top σ) = v := by
        intro top σ
        rcases hA.forms with ⟨rfl, _⟩ | ⟨k, off, ex, cap, rfl, hrho⟩
        · rw [AV.ren]
        · rw [AV.ren, hrho]
      have hrs : (rowsL f t n l).length ≤ l.length := by
        unfold rowsL
        rw [List.length_take]
        exact Nat.le_trans (Nat.min_le_right _ _) (List.length_filter_le _ _)
      revert hrs
      generalize rowsL f t n l = rs
      intro hrs
      rcases Nat.eq_zero_or_pos rs.length with h0 | h0
      · obtain rfl := List.length_eq_zero_iff.1 h0
        simp only [go_sem, Nat.reduceAdd, Nat.reduceSub, Nat.reduceMul, Nat.reduceDiv, Nat.reduceMod, Nat.reduceEqDiff, Nat.reduceLeDiff, Nat.reduceLT, Int.reduceLT, Int.reduceLE, Int.reduceEq, Int.reduceToNat, reduceIte, reduceCtorEq, List.length_nil, List.map_nil, List.length_cons, List.map_cons, List.replicate_succ, List.replicate_zero, List.set_cons_zero, List.take_succ_cons, List.take_zero, List.take_nil, List.length_append, List.map_append, List.cons_append, List.nil_append, List.drop_succ_cons, List.append_nil, eq_self, true_implies, not_true_eq_false, false_implies, and_true, true_and, decide_true]
        refine LL.st good_EI (fun i : Nat => 0) (fun i => True)
          (fun i => [(.z, v), ((.i (.i .z)), .ptr (H.key 0) 0), ((.i (.o (.o .z))), .ptr (H.key 1) 0), ((.o (.o (.i .z))), .ptr (H.key 2) 0), ((.i (.o (.i .z))), .bool (getL l key).2), ((.o (.i (.i .z))), .ptr (H.key 3) 0), ((.i (.i (.i .z))), .bool (getL l key).2), ((.o (.o (.o (.o .z)))), .nils), ((.i (.o (.o (.o .z)))), .nils), ((.o (.i (.o (.o .z)))), .int .i64 0)])
          (fun i => [.row true 5 [[.str c.key, .str c.value, .int .i64 c.ver, .bool c.del, .int .i64 c.floor]], .row true 2 [[.str f, .str t]], .row true 5 [[.str (getL l key).fst.key, .str (getL l key).fst.value, .int .i64 (getL l key).fst.ver, .bool (getL l key).fst.del, .int .i64 (getL l key).fst.floor]], .row true 5 [[.str (getL l key).fst.key, .str (getL l key).fst.value, .int .i64 (getL l key).fst.ver, .bool (getL l key).fst.del, .int .i64 (getL l key).fst.floor]]]) ?_ 0 (σ := [0, 1, 3, 4]) (Wk.mk' rfl (by decide) (by simp only [go_sem, hvr, Nat.reduceAdd, Nat.reduceSub, Nat.reduceMul, Nat.reduceDiv, Nat.reduceMod, Nat.reduceEqDiff, Nat.reduceLeDiff, Nat.reduceLT, Int.reduceLT, Int.reduceLE, Int.reduceEq, Int.reduceToNat, reduceIte, reduceCtorEq]) (by simp only [go_sem, hvr, Nat.reduceAdd, Nat.reduceSub, Nat.reduceMul, Nat.reduceDiv, Nat.reduceMod, Nat.reduceEqDiff, Nat.reduceLeDiff, Nat.reduceLT, Int.reduceLT, Int.reduceLE, Int.reduceEq, Int.reduceToNat, reduceIte, reduceCtorEq])) trivial
        rintro i -
        simp only [go_sem, C3L0, Nat.reduceAdd, Nat.reduceSub, Nat.reduceMul, Nat.reduceDiv, Nat.reduceMod, Nat.reduceEqDiff, Nat.reduceLeDiff, Nat.reduceLT, Int.reduceLT, Int.reduceLE, Int.reduceEq, Int.reduceToNat, reduceIte, reduceCtorEq, List.length_nil, List.map_nil, List.length_cons, List.map_cons, List.replicate_succ, List.replicate_zero, List.set_cons_zero, List.take_succ_cons, List.take_zero, List.take_nil, List.length_append, List.map_append, List.cons_append, List.nil_append, List.drop_succ_cons, List.append_nil]
        by_cases hi : isIdx l
        · have i17 : ∀ L, EI 17 [v] (H.ext L) = .ok (.bool true) (H.ext L) := fun L => by rw [e17 (hA.ext L) hl3, decide_eq_true hi]
          have i18 : ∀ L, EI 18 [v] (H.ext L) = .ok (.bool true) (H.ext L) := fun L => by rw [e18 (hA.ext L) hl3, decide_eq_true hi]
          have i22 : ∀ L, EI 22 [v, .agg [.str c.key, .str c.value, .int .i64 c.ver, .bool c.del, .int .i64 c.floor]] (H.ext L) = .ok (frV v (H.key L.length) 5 (withC l c).length) (H.ext (L ++ [frB v 5 ((withC l c).map Cell.enc)])) := fun L => by rw [e22 (hA.ext L) hl3, Heap.nx_ext, Heap.ext_append]
          by_cases hc : cellIs c
          · have hwc : withC l c = refW l c := by rw [withC, if_pos hc, refW_eq hi]
            have i23 : ∀ L, EI 23 [v, .agg [.str c.key, .str c.value, .int .i64 c.ver, .bool c.del, .int .i64 c.floor]] (H.ext L) = .ok (outV (H.key L.length) 5 (refW l c).length) (H.ext (L ++ [outB 5 ((refW l c).map Cell.enc)])) := fun L => by rw [e23 (hA.ext L) hl3, if_pos hc, Heap.nx_ext, Heap.ext_append]
            simp only [go_sem, Nat.reduceAdd, Nat.reduceSub, Nat.reduceMul, Nat.reduceDiv, Nat.reduceMod, Nat.reduceEqDiff, Nat.reduceLeDiff, Nat.reduceLT, Int.reduceLT, Int.reduceLE, Int.reduceEq, Int.reduceToNat, reduceIte, reduceCtorEq, List.length_nil, List.map_nil, List.length_cons, List.map_cons, List.replicate_succ, List.replicate_zero, List.set_cons_zero, List.take_succ_cons, List.take_zero, List.take_nil, List.length_append, List.map_append, List.cons_append, List.nil_append, List.drop_succ_cons, List.append_nil, i17, i18, i20, i21, i22, i23, i19, i19f, hwc, hrl, hwl, eq_self, true_implies, not_true_eq_false, false_implies, and_true, true_and, decide_true]
            exact ⟨_, rfl⟩
          · have hwc : withC l c = l := by rw [withC, if_neg hc]
            have i23 : ∀ L, EI 23 [v, .agg [.str c.key, .str c.value, .int .i64 c.ver, .bool c.del, .int .i64 c.floor]] (H.ext L) = .ok v (H.ext L) := fun L => by rw [e23 (hA.ext L) hl3, if_neg hc]
            simp only [go_sem, Nat.reduceAdd, Nat.reduceSub, Nat.reduceMul, Nat.reduceDiv, Nat.reduceMod, Nat.reduceEqDiff, Nat.reduceLeDiff, Nat.reduceLT, Int.reduceLT, Int.reduceLE, Int.reduceEq, Int.reduceToNat, reduceIte, reduceCtorEq, List.length_nil, List.map_nil, List.length_cons, List.map_cons, List.replicate_succ, List.replicate_zero, List.set_cons_zero, List.take_succ_cons, List.take_zero, List.take_nil, List.length_append, List.map_append, List.cons_append, List.nil_append, List.drop_succ_cons, List.append_nil, i17, i18, i20, i21, i22, i23, i19, i19v, hwc, hrl, hwl, eq_self, true_implies, not_true_eq_false, false_implies, and_true, true_and, decide_true]
            exact ⟨_, rfl⟩
        · have i17 : ∀ L, EI 17 [v] (H.ext L) = .ok (.bool false) (H.ext L) := fun L => by rw [e17 (hA.ext L) hl3, decide_eq_false hi]
          have i18 : ∀ L, EI 18 [v] (H.ext L) = .ok (.bool false) (H.ext L) := fun L => by rw [e18 (hA.ext L) hl3, decide_eq_false hi]
          simp only [go_sem, Nat.reduceAdd, Nat.reduceSub, Nat.reduceMul, Nat.reduceDiv, Nat.reduceMod, Nat.reduceEqDiff, Nat.reduceLeDiff, Nat.reduceLT, Int.reduceLT, Int.reduceLE, Int.reduceEq, Int.reduceToNat, reduceIte, reduceCtorEq, List.length_nil, List.map_nil, List.length_cons, List.map_cons, List.replicate_succ, List.replicate_zero, List.set_cons_zero, List.take_succ_cons, List.take_zero, List.take_nil, List.length_append, List.map_append, List.cons_append, List.nil_append, List.drop_succ_cons, List.append_nil, i17, i18, i20, i21, i19, hrl, hwl, eq_self, true_implies, not_true_eq_false, false_implies, and_true, true_and, decide_true]
          exact ⟨_, rfl⟩

      · have hB : outB 3 (rs.map Cell.row) = .row true 3 (rs.map Cell.row) := by cases rs with | nil => exact absurd h0 (by decide) | cons x xs => rfl
        have h30 := h1.2
        have hq1 : rho H 7 [0, 1, 3, 4, 5, 6] (H.key 4) = H.key 5 := rho_key rfl
        have hq2 : rho H 7 [0, 1, 3, 4, 5, 6] (H.key 5) = H.key 6 := rho_key rfl
        have hq3 : rho H 6 [0, 1, 2, 3, 4, 5] (H.key 4) = H.key 4 := rho_key rfl
        have hq4 : rho H 6 [0, 1, 2, 3, 4, 5] (H.key 5) = H.key 5 := rho_key rfl
        simp only [go_sem, Nat.reduceAdd, Nat.reduceSub, Nat.reduceMul, Nat.reduceDiv, Nat.reduceMod, Nat.reduceEqDiff, Nat.reduceLeDiff, Nat.reduceLT, Int.reduceLT, Int.reduceLE, Int.reduceEq, Int.reduceToNat, reduceIte, reduceCtorEq, List.length_nil, List.map_nil, List.length_cons, List.map_cons, List.replicate_succ, List.replicate_zero, List.set_cons_zero, List.take_succ_cons, List.take_zero, List.take_nil, List.length_append, List.map_append, List.cons_append, List.nil_append, List.drop_succ_cons, List.append_nil, eq_self, true_implies, not_true_eq_false, false_implies, and_true, true_and, decide_true, outV_pos h0, hB]
        refine LL.st good_EI (fun i : Nat => rs.length - i) (fun i => i ≤ rs.length)
          (fun i => [(.z, v), ((.i (.i .z)), .ptr (H.key 0) 0), ((.i (.o (.o .z))), .ptr (H.key 1) 0), ((.o (.o (.i .z))), .ptr (H.key 2) 0), ((.i (.o (.i .z))), .bool (getL l key).2), ((.o (.i (.i .z))), .ptr (H.key 3) 0), ((.i (.i (.i .z))), .bool (getL l key).2), ((.o (.o (.o (.o .z)))), .slice (H.key 4) 0 rs.length 3 false rs.length), ((.i (.o (.o (.o .z)))), .slice (H.key 5) 0 rs.length 3 false rs.length), ((.o (.i (.o (.o .z)))), .int .i64 i)])
          (fun i => [.row true 5 [[.str c.key, .str c.value, .int .i64 c.ver, .bool c.del, .int .i64 c.floor]], .row true 2 [[.str f, .str t]], .row true 5 [[.str (getL l key).fst.key, .str (getL l key).fst.value, .int .i64 (getL l key).fst.ver, .bool (getL l key).fst.del, .int .i64 (getL l key).fst.floor]], .row true 5 [[.str (getL l key).fst.key, .str (getL l key).fst.value, .int .i64 (getL l key).fst.ver, .bool (getL l key).fst.del, .int .i64 (getL l key).fst.floor]], .row true 3 (rs.map Cell.row), .row true 3 (rs.map Cell.row)]) ?_ 0 (σ := [0, 1, 3, 4, 5, 6]) (Wk.mk' rfl (by decide) (by simp only [go_sem, hvr, Cell.map_row, hq1, hq2, hq3, hq4, Nat.reduceAdd, Nat.reduceSub, Nat.reduceMul, Nat.reduceDiv, Nat.reduceMod, Nat.reduceEqDiff, Nat.reduceLeDiff, Nat.reduceLT, Int.reduceLT, Int.reduceLE, Int.reduceEq, Int.reduceToNat, reduceIte, reduceCtorEq]) (by simp only [go_sem, hvr, Cell.map_row, hq1, hq2, hq3, hq4, Nat.reduceAdd, Nat.reduceSub, Nat.reduceMul, Nat.reduceDiv, Nat.reduceMod, Nat.reduceEqDiff, Nat.reduceLeDiff, Nat.reduceLT, Int.reduceLT, Int.reduceLE, Int.reduceEq, Int.reduceToNat, reduceIte, reduceCtorEq])) (by omega)
        rintro i hi0
        by_cases hlt : i < rs.length
        · have hw := wrap_succ (n := i) (by omega)
          have hci : (i : Int) < (rs.length : Int) := by omega
          have hsi : i + 1 ≤ rs.length := by omega
          have hget : rs[i]? = some rs[i] := List.getElem?_eq_getElem hlt
          have hmi : (rs.map Cell.row)[i]? = some rs[i].row := by rw [List.getElem?_map, hget]; rfl
          simp only [go_sem, C3L0, Nat.reduceAdd, Nat.reduceSub, Nat.reduceMul, Nat.reduceDiv, Nat.reduceMod, Nat.reduceEqDiff, Nat.reduceLeDiff, Nat.reduceLT, Int.reduceLT, Int.reduceLE, Int.reduceEq, Int.reduceToNat, reduceIte, reduceCtorEq, List.length_nil, List.map_nil, List.length_cons, List.map_cons, List.replicate_succ, List.replicate_zero, List.set_cons_zero, List.take_succ_cons, List.take_zero, List.take_nil, List.length_append, List.map_append, List.cons_append, List.nil_append, List.drop_succ_cons, List.append_nil, hw, hci, hsi, hmi, hget, Cell.row, eq_self, true_implies, not_true_eq_false, false_implies, and_true, true_and, decide_true]
          refine ⟨i + 1, by show rs.length - (i + 1) < rs.length - i; omega, ?_, _, [0, 1, 2, 3, 4, 5], rfl, Wk.mk' rfl (by decide) (by simp only [go_sem, hvr, Cell.map_row, hq1, hq2, hq3, hq4, Nat.reduceAdd, Nat.reduceSub, Nat.reduceMul, Nat.reduceDiv, Nat.reduceMod, Nat.reduceEqDiff, Nat.reduceLeDiff, Nat.reduceLT, Int.reduceLT, Int.reduceLE, Int.reduceEq, Int.reduceToNat, reduceIte, reduceCtorEq]) (by simp only [go_sem, hvr, Cell.map_row, hq1, hq2, hq3, hq4, Nat.reduceAdd, Nat.reduceSub, Nat.reduceMul, Nat.reduceDiv, Nat.reduceMod, Nat.reduceEqDiff, Nat.reduceLeDiff, Nat.reduceLT, Int.reduceLT, Int.reduceLE, Int.reduceEq, Int.reduceToNat, reduceIte, reduceCtorEq])⟩
          omega
        · have hci : ¬ (i : Int) < (rs.length : Int) := by omega
          simp only [go_sem, C3L0, Nat.reduceAdd, Nat.reduceSub, Nat.reduceMul, Nat.reduceDiv, Nat.reduceMod, Nat.reduceEqDiff, Nat.reduceLeDiff, Nat.reduceLT, Int.reduceLT, Int.reduceLE, Int.reduceEq, Int.reduceToNat, reduceIte, reduceCtorEq, List.length_nil, List.map_nil, List.length_cons, List.map_cons, List.replicate_succ, List.replicate_zero, List.set_cons_zero, List.take_succ_cons, List.take_zero, List.take_nil, List.length_append, List.map_append, List.cons_append, List.nil_append, List.drop_succ_cons, List.append_nil, hci]
          by_cases hi : isIdx l
          · have i17 : ∀ L, EI 17 [v] (H.ext L) = .ok (.bool true) (H.ext L) := fun L => by rw [e17 (hA.ext L) hl3, decide_eq_true hi]
            have i18 : ∀ L, EI 18 [v] (H.ext L) = .ok (.bool true) (H.ext L) := fun L => by rw [e18 (hA.ext L) hl3, decide_eq_true hi]
            have i22 : ∀ L, EI 22 [v, .agg [.str c.key, .str c.value, .int .i64 c.ver, .bool c.del, .int .i64 c.floor]] (H.ext L) = .ok (frV v (H.key L.length) 5 (withC l c).length) (H.ext (L ++ [frB v 5 ((withC l c).map Cell.enc)])) := fun L => by rw [e22 (hA.ext L) hl3, Heap.nx_ext, Heap.ext_append]
            by_cases hc : cellIs c
            · have hwc : withC l c = refW l c := by rw [withC, if_pos hc, refW_eq hi]
              have i23 : ∀ L, EI 23 [v, .agg [.str c.key, .str c.value, .int .i64 c.ver, .bool c.del, .int .i64 c.floor]] (H.ext L) = .ok (outV (H.key L.length) 5 (refW l c).length) (H.ext (L ++ [outB 5 ((refW l c).map Cell.enc)])) := fun L => by rw [e23 (hA.ext L) hl3, if_pos hc, Heap.nx_ext, Heap.ext_append]
              simp only [go_sem, Nat.reduceAdd, Nat.reduceSub, Nat.reduceMul, Nat.reduceDiv, Nat.reduceMod, Nat.reduceEqDiff, Nat.reduceLeDiff, Nat.reduceLT, Int.reduceLT, Int.reduceLE, Int.reduceEq, Int.reduceToNat, reduceIte, reduceCtorEq, List.length_nil, List.map_nil, List.length_cons, List.map_cons, List.replicate_succ, List.replicate_zero, List.set_cons_zero, List.take_succ_cons, List.take_zero, List.take_nil, List.length_append, List.map_append, List.cons_append, List.nil_append, List.drop_succ_cons, List.append_nil, i17, i18, i20, i21, i22, i23, i19, i19f, hwc, hrl, hwl, eq_self, true_implies, not_true_eq_false, false_implies, and_true, true_and, decide_true]
              exact ⟨_, rfl⟩
            · have hwc : withC l c = l := by rw [withC, if_neg hc]
              have i23 : ∀ L, EI 23 [v, .agg [.str c.key, .str c.value, .int .i64 c.ver, .bool c.del, .int .i64 c.floor]] (H.ext L) = .ok v (H.ext L) := fun L => by rw [e23 (hA.ext L) hl3, if_neg hc]
              simp only [go_sem, Nat.reduceAdd, Nat.reduceSub, Nat.reduceMul, Nat.reduceDiv, Nat.reduceMod, Nat.reduceEqDiff, Nat.reduceLeDiff, Nat.reduceLT, Int.reduceLT, Int.reduceLE, Int.reduceEq, Int.reduceToNat, reduceIte, reduceCtorEq, List.length_nil, List.map_nil, List.length_cons, List.map_cons, List.replicate_succ, List.replicate_zero, List.set_cons_zero, List.take_succ_cons, List.take_zero, List.take_nil, List.length_append, List.map_append, List.cons_append, List.nil_append, List.drop_succ_cons, List.append_nil, i17, i18, i20, i21, i22, i23, i19, i19v, hwc, hrl, hwl, eq_self, true_implies, not_true_eq_false, false_implies, and_true, true_and, decide_true]
              exact ⟨_, rfl⟩
          · have i17 : ∀ L, EI 17 [v] (H.ext L) = .ok (.bool false) (H.ext L) := fun L => by rw [e17 (hA.ext L) hl3, decide_eq_false hi]
            have i18 : ∀ L, EI 18 [v] (H.ext L) = .ok (.bool false) (H.ext L) := fun L => by rw [e18 (hA.ext L) hl3, decide_eq_false hi]
            simp only [go_sem, Nat.reduceAdd, Nat.reduceSub, Nat.reduceMul, Nat.reduceDiv, Nat.reduceMod, Nat.reduceEqDiff, Nat.reduceLeDiff, Nat.reduceLT, Int.reduceLT, Int.reduceLE, Int.reduceEq, Int.reduceToNat, reduceIte, reduceCtorEq, List.length_nil, List.map_nil, List.length_cons, List.map_cons, List.replicate_succ, List.replicate_zero, List.set_cons_zero, List.take_succ_cons, List.take_zero, List.take_nil, List.length_append, List.map_append, List.cons_append, List.nil_append, List.drop_succ_cons, List.append_nil, i17, i18, i20, i21, i19, hrl, hwl, eq_self, true_implies, not_true_eq_false, false_implies, and_true, true_and, decide_true]
            exact ⟨_, rfl⟩

    · simp only [go_sem, Nat.reduceAdd, Nat.reduceSub, Nat.reduceMul, Nat.reduceDiv, Nat.reduceMod, Nat.reduceEqDiff, Nat.reduceLeDiff, Nat.reduceLT, Int.reduceLT, Int.reduceLE, Int.reduceEq, Int.reduceToNat, reduceIte, reduceCtorEq, List.length_nil, List.map_nil, List.length_cons, List.map_cons, List.replicate_succ, List.replicate_zero, List.set_cons_zero, List.take_succ_cons, List.take_zero, List.take_nil, List.length_append, List.map_append, List.cons_append, List.nil_append, List.drop_succ_cons, List.append_nil]
      exact ⟨_, rfl⟩
  · simp only [go_sem, Nat.reduceAdd, Nat.reduceSub, Nat.reduceMul, Nat.reduceDiv, Nat.reduceMod, Nat.reduceEqDiff, Nat.reduceLeDiff, Nat.reduceLT, Int.reduceLT, Int.reduceLE, Int.reduceEq, Int.reduceToNat, reduceIte, reduceCtorEq, List.length_nil, List.map_nil, List.length_cons, List.map_cons, List.replicate_succ, List.replicate_zero, List.set_cons_zero, List.take_succ_cons, List.take_zero, List.take_nil, List.length_append, List.map_append, List.cons_append, List.nil_append, List.drop_succ_cons, List.append_nil]
    exact ⟨_, rfl⟩

end Go.Proofs
/- index: what is built of cells, the plain law. -/

set_option linter.all false
set_option maxRecDepth 100000
namespace Go.Proofs
open Go Go.Ev
abbrev Ord (l : List Cell) : Prop := List.Pairwise (fun x y : Cell => ltS x.key y.key) l
theorem isIdx_all {l : List Cell} (h : isIdx l) : ∀ c ∈ l, cellIs c := by
  intro c hc
  obtain ⟨i, hi, rfl⟩ := List.mem_iff_getElem.1 hc
  obtain ⟨d, h1, h2, _⟩ := h i hi
  rw [List.getElem?_eq_getElem hi] at h1; cases h1
  exact h2
theorem isIdx_of {l : List Cell} (h : ∀ c ∈ l, cellIs c) (ho : Ord l) : isIdx l := by
  intro j hj
  refine ⟨l[j], List.getElem?_eq_getElem hj, h _ (List.getElem_mem hj), fun h0 => ⟨l[j - 1], List.getElem?_eq_getElem (by omega), ?_⟩⟩
  exact (List.pairwise_iff_getElem.1 ho) (j - 1) j (by omega) hj (by omega)
theorem withL_mem {c x : Cell} : ∀ {l : List Cell}, x ∈ withL l c → x = c ∨ x ∈ l
  | [], h => by simpa [withL] using h
  | d :: l, h => by
    unfold withL at h
    split at h
    · rcases List.mem_cons.1 h with h | h
      · exact .inr (by simp [h])
      · rcases withL_mem h with h | h
        · exact .inl h
        · exact .inr (by simp [h])
    · split at h
      · rcases List.mem_cons.1 h with h | h
        · exact .inl h
        · exact .inr (by simp [h])
      · rcases List.mem_cons.1 h with h | h
        · exact .inl h
        · exact .inr h
theorem withL_ord {c : Cell} : ∀ {l : List Cell}, Ord l → Ord (withL l c)
  | [], _ => by simp [withL, Ord]
  | d :: l, h => by
    have h' := List.pairwise_cons.1 h
    unfold withL
    split
    · rename_i h1
      refine List.pairwise_cons.2 ⟨fun x hx => ?_, withL_ord h'.2⟩
      rcases withL_mem hx with rfl | hx
      · exact h1
      · exact h'.1 x hx
    · rename_i h1
      split
      · rename_i h2
        exact List.pairwise_cons.2 ⟨fun x hx => by rw [← h2]; exact h'.1 x hx, h'.2⟩
      · rename_i h2
        have h3 : ltS c.key d.key := by rcases ltS_tri d.key c.key with g | g | g; exact absurd g h1; exact absurd g h2; exact g
        refine List.pairwise_cons.2 ⟨fun x hx => ?_, h⟩
        rcases List.mem_cons.1 hx with rfl | hx
        · exact h3
        · exact ltS_trans h3 (h'.1 x hx)
/-- what is built, cell by cell -/
noncomputable def builtL (l : List Cell) : List Cell := l.foldl withC []
theorem builtL_next {l : List Cell} {i : Nat} {c : Cell} (h : l[i]? = some c) : builtL (l.take (i + 1)) = withC (builtL (l.take i)) c := by
  rw [take_next h, builtL, List.foldl_append]; rfl
theorem withC_good {l : List Cell} {c : Cell} (h : (∀ x ∈ l, cellIs x) ∧ Ord l) : (∀ x ∈ withC l c, cellIs x) ∧ Ord (withC l c) := by
  unfold withC
  split
  · rename_i hc
    refine ⟨fun x hx => ?_, withL_ord h.2⟩
    rcases withL_mem hx with rfl | hx
    · exact hc
    · exact h.1 x hx
  · exact h
theorem fold_good : ∀ (m : List Cell) {l : List Cell}, (∀ x ∈ l, cellIs x) ∧ Ord l → (∀ x ∈ m.foldl withC l, cellIs x) ∧ Ord (m.foldl withC l)
  | [], _, h => h
  | c :: m, _, h => fold_good m (withC_good h)
theorem builtL_good (l : List Cell) : (∀ x ∈ builtL l, cellIs x) ∧ Ord (builtL l) := fold_good l ⟨by simp, List.Pairwise.nil⟩
theorem builtL_idx (l : List Cell) : isIdx (builtL l) := isIdx_of (builtL_good l).1 (builtL_good l).2
theorem getL_withL_self {c : Cell} : ∀ {l : List Cell}, getL (withL l c) c.key = (c, true)
  | [] => by simp [withL, getL]
  | d :: l => by
    unfold withL
    split
    · rename_i h1
      have hne : d.key ≠ c.key := fun e => ltS_irrefl _ (e ▸ h1)
      rw [getL, if_neg hne]
      exact getL_withL_self
    · split <;> simp [getL]
theorem getL_withL_other {c : Cell} {k : List Nat} (hk : k ≠ c.key) : ∀ {l : List Cell}, getL (withL l c) k = getL l k
  | [] => by simp [withL, getL, Ne.symm hk]
  | d :: l => by
    unfold withL
    split
    · rw [getL, getL, getL_withL_other hk]
    · split
      · rename_i h2
        rw [getL, getL, if_neg (Ne.symm hk), if_neg (fun e => hk (by rw [← e, h2]))]
      · rw [getL, if_neg (Ne.symm hk)]
/-- nothing later says anything else of this key -/
def lastAt (l : List Cell) (i : Nat) (k : List Nat) : Prop := ∀ j d, i < j → l[j]? = some d → ¬ (d.key = k ∧ cellIs d)
theorem fold_get_other {k : List Nat} : ∀ (m : List Cell) {l : List Cell}, (∀ d ∈ m, ¬ (d.key = k ∧ cellIs d)) → getL (m.foldl withC l) k = getL l k
  | [], _, _ => rfl
  | c :: m, l, h => by
    rw [List.foldl_cons, fold_get_other m fun d hd => h d (by simp [hd])]
    unfold withC
    split
    · rename_i hc
      exact getL_withL_other fun e => h c (by simp) ⟨e.symm, hc⟩
    · rfl
theorem built_get {l : List Cell} {i : Nat} {c : Cell} (h : l[i]? = some c) (hc : cellIs c) (hl : lastAt l i c.key) : getL (builtL l) c.key = (c, true) := by
  have e : l = l.take i ++ c :: l.drop (i + 1) := by
    have h1 := (List.getElem?_eq_some_iff.1 h)
    obtain ⟨hi, rfl⟩ := h1
    rw [List.getElem_cons_drop, List.take_append_drop]
  have e2 : builtL l = (l.drop (i + 1)).foldl withC (withC (builtL (l.take i)) c) := by
    conv => lhs; rw [e]
    rw [builtL, List.foldl_append]; rfl
  rw [e2, fold_get_other _ ?_]
  · rw [withC, if_pos hc, getL_withL_self]
  · intro d hd
    obtain ⟨j, hj, rfl⟩ := List.mem_iff_getElem.1 hd
    rw [List.length_drop] at hj
    refine hl (i + 1 + j) _ (by omega) ?_
    rw [List.getElem_drop, List.getElem?_eq_getElem (by omega)]
end Go.Proofs
/- index: how many cells are built, the plain law. -/

set_option linter.all false
set_option maxRecDepth 100000
namespace Go.Proofs
open Go Go.Ev
theorem len_le_of_subset {α : Type} [DecidableEq α] : ∀ {a b : List α}, a.Nodup → (∀ x ∈ a, x ∈ b) → a.length ≤ b.length
  | [], _, _, _ => by simp
  | x :: a, b, hn, h => by
    have hn' := List.nodup_cons.1 hn
    have hx := h x (by simp)
    have ih := len_le_of_subset (b := b.erase x) hn'.2 fun y hy => (List.mem_erase_of_ne (a := y) (b := x) (fun (e : y = x) => hn'.1 (by rw [← e]; exact hy))).2 (h y (by simp [hy]))
    rw [List.length_erase_of_mem hx] at ih
    have : 0 < b.length := List.length_pos_of_mem hx
    simp only [List.length_cons]; omega
def goodAt (l : List Cell) (j : Nat) : Prop := ∃ c, l[j]? = some c ∧ cellIs c ∧ lastAt l j c.key
noncomputable instance (l : List Cell) (j : Nat) : Decidable (goodAt l j) := Classical.propDecidable _
noncomputable def cnt (l : List Cell) (i : Nat) : Nat := ((List.range i).filter fun j => decide (goodAt l j)).length
theorem cnt_yes {l : List Cell} {i : Nat} (h : goodAt l i) : cnt l (i + 1) = cnt l i + 1 := by
  unfold cnt
  rw [List.range_succ, List.filter_append, List.filter_cons_of_pos (by simp [h]), List.filter_nil, List.length_append]; rfl
theorem cnt_no {l : List Cell} {i : Nat} (h : ¬ goodAt l i) : cnt l (i + 1) = cnt l i := by
  unfold cnt
  rw [List.range_succ, List.filter_append, List.filter_cons_of_neg (by simp [h]), List.filter_nil, List.append_nil]
theorem cnt_le (l : List Cell) (i : Nat) : cnt l i ≤ i := by
  have := List.length_filter_le (fun j => decide (goodAt l j)) (List.range i)
  rwa [List.length_range] at this
theorem last_ex {l : List Cell} {k : List Nat} : ∀ (n j : Nat) (d : Cell), l.length - j ≤ n → l[j]? = some d → d.key = k → cellIs d → ∃ j c, l[j]? = some c ∧ c.key = k ∧ cellIs c ∧ lastAt l j k
  | 0, j, d, hn, hj, _, _ => by have := (List.getElem?_eq_some_iff.1 hj).1; omega
  | n + 1, j, d, hn, hj, hk, hc => by
    by_cases h : lastAt l j k
    · exact ⟨j, d, hj, hk, hc, h⟩
    · unfold lastAt at h
      simp only [Classical.not_forall, Classical.not_not] at h
      obtain ⟨j', d', h1, h2, h3, h4⟩ := h
      exact last_ex n j' d' (by have := (List.getElem?_eq_some_iff.1 hj).1; omega) h2 h3 h4
theorem getL_mem {k : List Nat} {c : Cell} : ∀ {l : List Cell}, getL l k = (c, true) → c ∈ l ∧ c.key = k
  | [], h => by simp [getL] at h
  | d :: l, h => by
    unfold getL at h
    split at h
    · rename_i e
      cases h
      exact ⟨by simp, e⟩
    · have := getL_mem h
      exact ⟨by simp [this.1], this.2⟩
theorem fold_mem {x : Cell} : ∀ (m : List Cell) {l : List Cell}, x ∈ m.foldl withC l → x ∈ l ∨ x ∈ m
  | [], _, h => .inl h
  | c :: m, l, h => by
    rcases fold_mem m h with h | h
    · unfold withC at h
      split at h
      · rcases withL_mem h with rfl | h
        · exact .inr (by simp)
        · exact .inl h
      · exact .inl h
    · exact .inr (by simp [h])
theorem ord_nodup {l : List Cell} (h : Ord l) : (l.map Cell.key).Nodup := by
  unfold List.Nodup
  rw [List.pairwise_map]
  exact List.Pairwise.imp (S := fun a b : Cell => a.key ≠ b.key) (fun {a b} (h : ltS a.key b.key) (e : a.key = b.key) => ltS_irrefl b.key (by rw [e] at h; exact h)) h
theorem cnt_built (l : List Cell) : cnt l l.length = (builtL l).length := by
  have hkey : ∀ j, goodAt l j → ∃ c, l[j]? = some c ∧ cellIs c ∧ lastAt l j c.key := fun j h => h
  let kf : Nat → List Nat := fun j => match l[j]? with | some c => c.key | none => []
  have hA : (((List.range l.length).filter fun j => decide (goodAt l j)).map kf).Nodup := by
    unfold List.Nodup
    rw [List.pairwise_map]
    have h0 : List.Pairwise (· < ·) ((List.range l.length).filter fun j => decide (goodAt l j)) := (List.pairwise_lt_range).filter _
    refine List.Pairwise.imp_of_mem ?_ h0
    intro i j hi hj hij e
    simp only [List.mem_filter, decide_eq_true_eq] at hi hj
    obtain ⟨c, h1, h2, h3⟩ := hi.2
    obtain ⟨d, g1, g2, g3⟩ := hj.2
    have e1 : kf i = c.key := by show (match l[i]? with | some c => c.key | none => []) = _; rw [h1]
    have e2 : kf j = d.key := by show (match l[j]? with | some c => c.key | none => []) = _; rw [g1]
    exact h3 j d hij g1 ⟨by rw [← e2, ← e, e1], g2⟩
  have hB := ord_nodup (builtL_good l).2
  have h1 : (((List.range l.length).filter fun j => decide (goodAt l j)).map kf).length ≤ ((builtL l).map Cell.key).length := by
    refine len_le_of_subset hA fun k hk => ?_
    obtain ⟨j, hj, rfl⟩ := List.mem_map.1 hk
    simp only [List.mem_filter, decide_eq_true_eq] at hj
    obtain ⟨c, g1, g2, g3⟩ := hj.2
    have e1 : kf j = c.key := by show (match l[j]? with | some c => c.key | none => []) = _; rw [g1]
    rw [e1]
    exact List.mem_map.2 ⟨c, (getL_mem (built_get g1 g2 g3)).1, rfl⟩
  have h2 : ((builtL l).map Cell.key).length ≤ (((List.range l.length).filter fun j => decide (goodAt l j)).map kf).length := by
    refine len_le_of_subset hB fun k hk => ?_
    obtain ⟨x, hx, rfl⟩ := List.mem_map.1 hk
    have hxc := (builtL_good l).1 x hx
    rcases fold_mem l hx with h | h
    · cases h
    · obtain ⟨i, hi, rfl⟩ := List.mem_iff_getElem.1 h
      obtain ⟨j, c, g1, g2, g3, g4⟩ := last_ex l.length i _ (by omega) (List.getElem?_eq_getElem hi) rfl hxc
      refine List.mem_map.2 ⟨j, ?_, ?_⟩
      · simp only [List.mem_filter, List.mem_range, decide_eq_true_eq]
        exact ⟨(List.getElem?_eq_some_iff.1 g1).1, c, g1, g3, by rw [g2]; exact g4⟩
      · show (match l[j]? with | some c => c.key | none => []) = _
        rw [g1]; exact g2
  rw [List.length_map, List.length_map] at h1 h2
  unfold cnt
  omega
end Go.Proofs
/- index: the law of building, walked. -/

set_option linter.all false
set_option maxRecDepth 100000
namespace Go.Proofs
open Go Go.Ev
variable {H : Heap}

@[go_sem high] theorem outV_ren (ρ : K → K) (k : K) (e n : Nat) : AV.ren ρ (outV k e n) = outV (ρ k) e n := by cases n with | zero => show AV.ren ρ .nils = .nils; rw [AV.ren] | succ n => show AV.ren ρ (.slice k 0 (n + 1) e false (n + 1)) = .slice (ρ k) 0 (n + 1) e false (n + 1); rw [AV.ren]
@[go_sem ↓] theorem outB_ren (ρ : K → K) (l : List Cell) : Blk.ren ρ (outB 5 (l.map Cell.enc)) = outB 5 (l.map Cell.enc) := by
  cases l with
  | nil => rfl
  | cons c l => show Blk.row true 5 (((c :: l).map Cell.enc).map (AV.rens ρ)) = Blk.row true 5 ((c :: l).map Cell.enc); rw [Cell.map_rens]
def laterOk (l : List Cell) (k : List Nat) (i j : Nat) : Prop := ∀ j' d, i < j' → j' < j → l[j']? = some d → ¬ (d.key = k ∧ cellIs d)
noncomputable instance (l : List Cell) (k : List Nat) (i j : Nat) : Decidable (laterOk l k i j) := Classical.propDecidable _
theorem laterOk_next {l : List Cell} {k : List Nat} {i j : Nat} {d : Cell} (h : l[j]? = some d) (hij : i < j) : laterOk l k i (j + 1) ↔ laterOk l k i j ∧ ¬ (d.key = k ∧ cellIs d) := by
  constructor
  · intro g
    exact ⟨fun j' e h1 h2 h3 => g j' e h1 (by omega) h3, g j d hij (by omega) h⟩
  · rintro ⟨g1, g2⟩ j' e h1 h2 h3
    rcases Nat.lt_or_ge j' j with g | g
    · exact g1 j' e h1 g h3
    · obtain rfl : j' = j := by omega
      rw [h] at h3; cases h3; exact g2
theorem laterOk_all {l : List Cell} {k : List Nat} {i j : Nat} (hj : l.length ≤ j) : laterOk l k i j ↔ lastAt l i k := by
  constructor
  · intro g j' e h1 h3
    exact g j' e h1 (by have := (List.getElem?_eq_some_iff.1 h3).1; omega) h3
  · intro g j' e h1 _ h3
    exact g j' e h1 h3
theorem withC_pos {l : List Cell} {c : Cell} (h : 0 < l.length) : 0 < (withC l c).length := by
  cases l with
  | nil => exact absurd h (by decide)
  | cons d l =>
    unfold withC
    split
    · unfold withL
      split
      · simp
      · split <;> simp
    · exact h
theorem withL_len (l : List Cell) (c : Cell) : (withL l c).length ≤ l.length + 1 := by
  induction l with
  | nil => simp [withL]
  | cons d l ih =>
    unfold withL
    split
    · simp only [List.length_cons]; omega
    · split <;> simp
theorem withC_len (l : List Cell) (c : Cell) : (withC l c).length ≤ l.length + 1 := by
  unfold withC
  split
  · exact withL_len l c
  · omega
theorem built_len (l : List Cell) : ∀ i, i ≤ l.length → (builtL (l.take i)).length ≤ i
  | 0, _ => by simp [builtL]
  | i + 1, h => by
    have hget : l[i]? = some l[i] := List.getElem?_eq_getElem (by omega)
    rw [builtL_next hget]
    have := withC_len (builtL (l.take i)) l[i]
    have := built_len l i (by omega)
    omega
theorem f22_out {L : List Blk} {i : Nat} {acc : List Cell} (h : L[i]? = some (outB 5 (acc.map Cell.enc))) (hl : acc.length < 4294967295) (c : Cell) :
    FnOk Try.prog 22 [outV (H.key i) 5 acc.length, .agg c.enc] (H.ext L) fun r G => r = outV (H.key L.length) 5 (withC acc c).length ∧ G = H.ext (L ++ [outB 5 ((withC acc c).map Cell.enc)]) := by
  have harr := outB_arr (H := H) h
  rw [List.length_map] at harr
  have key := padF' (xs := (withC acc c).map Cell.enc) (List.length_map ..) (Cell.map_rens · _) (f22_ok harr hl c)
  refine key.mono ?_
  rintro r G ⟨rfl, rfl⟩
  rw [Heap.nx_ext, Heap.ext_append]
  cases acc with
  | nil => exact ⟨rfl, rfl⟩
  | cons x xs =>
    have hp := withC_pos (l := x :: xs) (c := c) (by simp)
    refine ⟨?_, ?_⟩
    · rw [outV_pos hp]; rfl
    · have : outB 5 ((withC (x :: xs) c).map Cell.enc) = .row true 5 ((withC (x :: xs) c).map Cell.enc) := by
        cases hh : withC (x :: xs) c with
        | nil => rw [hh] at hp; exact absurd hp (by decide)
        | cons y ys => rfl
      rw [this]; rfl

theorem f4_ok {v : AV} {l : List Cell} (hA : Arr H 5 v (l.map Cell.enc)) (hl : l.length ≤ 9223372036854775807) :
    FnOk Try.prog 4 [v] H fun r G => r = .bool true ∧ G = H := by
  refine FnOk.assume fun hok => ?_
  refine FnOk.drop (R := fun r => r = .bool true) ?_ (by rintro v rfl ρ; rw [AV.ren])
  refine FnOk.of_WW Try.func4 rfl C4ok R4ok EI good_EI ?_
  simp only [go_sem, C4, Nat.reduceAdd, Nat.reduceSub, Nat.reduceMul, Nat.reduceDiv, Nat.reduceMod, Nat.reduceEqDiff, Nat.reduceLeDiff, Nat.reduceLT, Int.reduceLT, Int.reduceLE, Int.reduceEq, Int.reduceToNat, reduceIte, reduceCtorEq]
  refine CL.one f11_ok ?_
  simp only [go_sem, Nat.reduceAdd, Nat.reduceSub, Nat.reduceMul, Nat.reduceDiv, Nat.reduceMod, Nat.reduceEqDiff, Nat.reduceLeDiff, Nat.reduceLT, Int.reduceLT, Int.reduceLE, Int.reduceEq, Int.reduceToNat, reduceIte, reduceCtorEq]
  refine CL.bool (f12_ok (hA.ext []) hl) (fun h1 => ?_) (fun h1 => ?_)
  have hl3 : l.length ≤ 30 := by have := h1.2; omega
  rcases hA.forms with ⟨rfl, hnil⟩ | ⟨k, off, ex, cap, rfl, hrho⟩
  · have hn0 : l.length = 0 := by simpa using hnil
    simp only [go_sem, Nat.reduceAdd, Nat.reduceSub, Nat.reduceMul, Nat.reduceDiv, Nat.reduceMod, Nat.reduceEqDiff, Nat.reduceLeDiff, Nat.reduceLT, Int.reduceLT, Int.reduceLE, Int.reduceEq, Int.reduceToNat, reduceIte, reduceCtorEq, List.length_nil, List.map_nil, List.length_cons, List.map_cons, List.replicate_succ, List.replicate_zero, List.set_cons_zero, List.take_succ_cons, List.take_zero, List.take_nil, List.length_append, List.map_append, List.cons_append, List.nil_append, List.drop_succ_cons, List.append_nil]
    refine LL.st good_EI (fun i : Nat => l.length - i) (fun i => i ≤ l.length)
      (fun i => [(.z, .nils), ((.o (.o .z)), outV (H.key 0) 5 (builtL (l.take i)).length), ((.i (.o .z)), .int .i64 i)])
      (fun i => [outB 5 ((builtL (l.take i)).map Cell.enc)]) ?_ 0 (σ := [0]) (Wk.mk' rfl (by decide) (by simp only [go_sem, List.length_map, hn0, List.take_zero, builtL, List.foldl_nil, List.length_nil, List.map_nil, Nat.reduceAdd, Nat.reduceSub, Nat.reduceMul, Nat.reduceDiv, Nat.reduceMod, Nat.reduceEqDiff, Nat.reduceLeDiff, Nat.reduceLT, Int.reduceLT, Int.reduceLE, Int.reduceEq, Int.reduceToNat, reduceIte, reduceCtorEq]) (by simp only [go_sem, List.length_map, hn0, List.take_zero, builtL, List.foldl_nil, List.length_nil, List.map_nil, Nat.reduceAdd, Nat.reduceSub, Nat.reduceMul, Nat.reduceDiv, Nat.reduceMod, Nat.reduceEqDiff, Nat.reduceLeDiff, Nat.reduceLT, Int.reduceLT, Int.reduceLE, Int.reduceEq, Int.reduceToNat, reduceIte, reduceCtorEq])) (by omega)
    rintro i hi
    by_cases hlt : i < l.length
    · exact absurd hlt (by omega)
    · have hci : ¬ (i : Int) < (l.length : Int) := by omega
      simp only [go_sem, C4L0, Nat.reduceAdd, Nat.reduceSub, Nat.reduceMul, Nat.reduceDiv, Nat.reduceMod, Nat.reduceEqDiff, Nat.reduceLeDiff, Nat.reduceLT, Int.reduceLT, Int.reduceLE, Int.reduceEq, Int.reduceToNat, reduceIte, reduceCtorEq, List.length_map, hci, show ¬ (i : Int) < 0 by omega]
      rw [take_all (by omega)]
      have hbl := built_len l l.length (Nat.le_refl _)
      rw [List.take_length] at hbl
      have harr : ∀ (L : List Blk), L[0]? = some (outB 5 ((builtL l).map Cell.enc)) → Arr (H.ext L) 5 (outV (H.key 0) 5 (builtL l).length) ((builtL l).map Cell.enc) := fun L h => by
        have := outB_arr (H := H) h
        rwa [List.length_map] at this
      refine CL.bool (f17_ok (harr _ rfl) (by omega)) (fun h2 => ?_) (fun h2 => absurd (builtL_idx l) h2)
      simp only [go_sem, Nat.reduceAdd, Nat.reduceSub, Nat.reduceMul, Nat.reduceDiv, Nat.reduceMod, Nat.reduceEqDiff, Nat.reduceLeDiff, Nat.reduceLT, Int.reduceLT, Int.reduceLE, Int.reduceEq, Int.reduceToNat, reduceIte, reduceCtorEq]
      have hml : (builtL l).length < 4294967296 := by omega
      refine LL.st good_EI (fun i : Nat => l.length - i) (fun i => i ≤ l.length)
        (fun i => [(.z, .nils), ((.o (.o .z)), outV (H.key 0) 5 (builtL l).length), ((.o (.i .z)), .int .i64 (cnt l i)), ((.i (.i .z)), .int .i64 i)])
        (fun i => [outB 5 ((builtL l).map Cell.enc)]) ?_ 0 (σ := [0]) (Wk.mk' rfl (by decide) (by simp only [go_sem, List.length_map, hn0, cnt, List.range_zero, List.filter_nil, List.length_nil, Nat.reduceAdd, Nat.reduceSub, Nat.reduceMul, Nat.reduceDiv, Nat.reduceMod, Nat.reduceEqDiff, Nat.reduceLeDiff, Nat.reduceLT, Int.reduceLT, Int.reduceLE, Int.reduceEq, Int.reduceToNat, reduceIte, reduceCtorEq]) (by intro p hp; simp only [List.zip_cons_cons, List.zip_nil_left, List.mem_singleton] at hp; subst hp; intro _; show _ = some (Blk.ren _ (outB 5 (List.map Cell.enc _))); rw [outB_ren]; first | rfl | (rw [hnew]; rfl))) (by omega)
      clear hlt hci hi
      rintro i hi
      by_cases hlt : i < l.length
      · exact absurd hlt (by omega)
      · have hci : ¬ (i : Int) < (l.length : Int) := by omega
        have hil : i = l.length := by omega
        subst hil
        simp only [go_sem, C4L2, Nat.reduceAdd, Nat.reduceSub, Nat.reduceMul, Nat.reduceDiv, Nat.reduceMod, Nat.reduceEqDiff, Nat.reduceLeDiff, Nat.reduceLT, Int.reduceLT, Int.reduceLE, Int.reduceEq, Int.reduceToNat, reduceIte, reduceCtorEq, List.length_map, hci, show ¬ (l.length : Int) < 0 by omega]
        rw [cnt_built]
        rcases Nat.eq_zero_or_pos (builtL l).length with h0 | h0
        · simp only [go_sem, Nat.reduceAdd, Nat.reduceSub, Nat.reduceMul, Nat.reduceDiv, Nat.reduceMod, Nat.reduceEqDiff, Nat.reduceLeDiff, Nat.reduceLT, Int.reduceLT, Int.reduceLE, Int.reduceEq, Int.reduceToNat, reduceIte, reduceCtorEq, h0, Int.ofNat_zero, eq_self, true_implies, not_true_eq_false, false_implies, and_true, true_and, decide_true]
          first | exact ⟨rfl, _, rfl⟩ | exact ⟨_, rfl⟩
        · simp only [go_sem, Nat.reduceAdd, Nat.reduceSub, Nat.reduceMul, Nat.reduceDiv, Nat.reduceMod, Nat.reduceEqDiff, Nat.reduceLeDiff, Nat.reduceLT, Int.reduceLT, Int.reduceLE, Int.reduceEq, Int.reduceToNat, reduceIte, reduceCtorEq, outV_pos h0, eq_self, true_implies, not_true_eq_false, false_implies, and_true, true_and, decide_true]
          first | exact ⟨rfl, _, rfl⟩ | exact ⟨_, rfl⟩
  · simp only [go_sem, Nat.reduceAdd, Nat.reduceSub, Nat.reduceMul, Nat.reduceDiv, Nat.reduceMod, Nat.reduceEqDiff, Nat.reduceLeDiff, Nat.reduceLT, Int.reduceLT, Int.reduceLE, Int.reduceEq, Int.reduceToNat, reduceIte, reduceCtorEq, List.length_nil, List.map_nil, List.length_cons, List.map_cons, List.replicate_succ, List.replicate_zero, List.set_cons_zero, List.take_succ_cons, List.take_zero, List.take_nil, List.length_append, List.map_append, List.cons_append, List.nil_append, List.drop_succ_cons, List.append_nil]
    refine LL.st good_EI (fun i : Nat => l.length - i) (fun i => i ≤ l.length)
      (fun i => [(.z, .slice k off (l.map Cell.enc).length 5 ex cap), ((.o (.o .z)), outV (H.key 0) 5 (builtL (l.take i)).length), ((.i (.o .z)), .int .i64 i)])
      (fun i => [outB 5 ((builtL (l.take i)).map Cell.enc)]) ?_ 0 (σ := [0]) (Wk.mk' rfl (by decide) (by simp only [go_sem, List.length_map, hrho, List.take_zero, builtL, List.foldl_nil, List.length_nil, List.map_nil, Nat.reduceAdd, Nat.reduceSub, Nat.reduceMul, Nat.reduceDiv, Nat.reduceMod, Nat.reduceEqDiff, Nat.reduceLeDiff, Nat.reduceLT, Int.reduceLT, Int.reduceLE, Int.reduceEq, Int.reduceToNat, reduceIte, reduceCtorEq]) (by simp only [go_sem, List.length_map, hrho, List.take_zero, builtL, List.foldl_nil, List.length_nil, List.map_nil, Nat.reduceAdd, Nat.reduceSub, Nat.reduceMul, Nat.reduceDiv, Nat.reduceMod, Nat.reduceEqDiff, Nat.reduceLeDiff, Nat.reduceLT, Int.reduceLT, Int.reduceLE, Int.reduceEq, Int.reduceToNat, reduceIte, reduceCtorEq])) (by omega)
    rintro i hi
    by_cases hlt : i < l.length
    · obtain ⟨kk, r, ex', cap', wr, rows, hv, hk, hg, _, hat⟩ := hA.pick (j := i) (by simpa using hlt)
      have hrow := hat i (by simpa using hlt)
      have hgo := Heap.get_ext_old hok hg
      have hw := wrap_succ (n := i) (by omega)
      have hci : (i : Int) < (l.length : Int) := by omega
      have hsi : i + 1 ≤ l.length := by omega
      have hget : l[i]? = some l[i] := List.getElem?_eq_getElem hlt
      cases hv
      have hlen := built_len l i hi
      simp only [go_sem, C4L0, Nat.reduceAdd, Nat.reduceSub, Nat.reduceMul, Nat.reduceDiv, Nat.reduceMod, Nat.reduceEqDiff, Nat.reduceLeDiff, Nat.reduceLT, Int.reduceLT, Int.reduceLE, Int.reduceEq, Int.reduceToNat, reduceIte, reduceCtorEq, List.length_map, hw, hgo, hrow, hci, hsi, List.getElem?_eq_getElem hlt, Cell.enc]
      refine CL.of (f22_out (acc := builtL (l.take i)) rfl (by omega) l[i]) ?_
      rintro _ _ ⟨rfl, rfl⟩
      have hnew := builtL_next hget
      simp only [go_sem, Nat.reduceAdd, Nat.reduceSub, Nat.reduceMul, Nat.reduceDiv, Nat.reduceMod, Nat.reduceEqDiff, Nat.reduceLeDiff, Nat.reduceLT, Int.reduceLT, Int.reduceLE, Int.reduceEq, Int.reduceToNat, reduceIte, reduceCtorEq, List.length_map, hw, hgo, hrow, hci, hsi, List.getElem?_eq_getElem hlt, Cell.enc, List.length_nil, List.map_nil, List.length_cons, List.map_cons, List.replicate_succ, List.replicate_zero, List.set_cons_zero, List.take_succ_cons, List.take_zero, List.take_nil, List.length_append, List.map_append, List.cons_append, List.nil_append, List.drop_succ_cons, List.append_nil]
      refine ⟨i + 1, by show l.length - (i + 1) < l.length - i; omega, ?_, _, [1], rfl, Wk.mk' rfl (by decide) (by simp only [go_sem, hrho, List.length_map, hnew, Nat.reduceAdd, Nat.reduceSub, Nat.reduceMul, Nat.reduceDiv, Nat.reduceMod, Nat.reduceEqDiff, Nat.reduceLeDiff, Nat.reduceLT, Int.reduceLT, Int.reduceLE, Int.reduceEq, Int.reduceToNat, reduceIte, reduceCtorEq]) (by intro p hp; simp only [List.zip_cons_cons, List.zip_nil_left, List.mem_singleton] at hp; subst hp; intro _; show _ = some (Blk.ren _ (outB 5 (List.map Cell.enc _))); rw [outB_ren]; first | rfl | (rw [hnew]; rfl))⟩
      omega
    · have hci : ¬ (i : Int) < (l.length : Int) := by omega
      simp only [go_sem, C4L0, Nat.reduceAdd, Nat.reduceSub, Nat.reduceMul, Nat.reduceDiv, Nat.reduceMod, Nat.reduceEqDiff, Nat.reduceLeDiff, Nat.reduceLT, Int.reduceLT, Int.reduceLE, Int.reduceEq, Int.reduceToNat, reduceIte, reduceCtorEq, List.length_map, hci]
      rw [take_all (by omega)]
      have hbl := built_len l l.length (Nat.le_refl _)
      rw [List.take_length] at hbl
      have harr : ∀ (L : List Blk), L[0]? = some (outB 5 ((builtL l).map Cell.enc)) → Arr (H.ext L) 5 (outV (H.key 0) 5 (builtL l).length) ((builtL l).map Cell.enc) := fun L h => by
        have := outB_arr (H := H) h
        rwa [List.length_map] at this
      refine CL.bool (f17_ok (harr _ rfl) (by omega)) (fun h2 => ?_) (fun h2 => absurd (builtL_idx l) h2)
      simp only [go_sem, Nat.reduceAdd, Nat.reduceSub, Nat.reduceMul, Nat.reduceDiv, Nat.reduceMod, Nat.reduceEqDiff, Nat.reduceLeDiff, Nat.reduceLT, Int.reduceLT, Int.reduceLE, Int.reduceEq, Int.reduceToNat, reduceIte, reduceCtorEq]
      have hml : (builtL l).length < 4294967296 := by omega
      refine LL.st good_EI (fun i : Nat => l.length - i) (fun i => i ≤ l.length)
        (fun i => [(.z, .slice k off (l.map Cell.enc).length 5 ex cap), ((.o (.o .z)), outV (H.key 0) 5 (builtL l).length), ((.o (.i .z)), .int .i64 (cnt l i)), ((.i (.i .z)), .int .i64 i)])
        (fun i => [outB 5 ((builtL l).map Cell.enc)]) ?_ 0 (σ := [0]) (Wk.mk' rfl (by decide) (by simp only [go_sem, List.length_map, hrho, cnt, List.range_zero, List.filter_nil, List.length_nil, Nat.reduceAdd, Nat.reduceSub, Nat.reduceMul, Nat.reduceDiv, Nat.reduceMod, Nat.reduceEqDiff, Nat.reduceLeDiff, Nat.reduceLT, Int.reduceLT, Int.reduceLE, Int.reduceEq, Int.reduceToNat, reduceIte, reduceCtorEq]) (by intro p hp; simp only [List.zip_cons_cons, List.zip_nil_left, List.mem_singleton] at hp; subst hp; intro _; show _ = some (Blk.ren _ (outB 5 (List.map Cell.enc _))); rw [outB_ren]; first | rfl | (rw [hnew]; rfl))) (by omega)
      clear hlt hci hi
      rintro i hi
      by_cases hlt : i < l.length
      · obtain ⟨kk, r, ex', cap', wr, rows, hv, hk, hg, _, hat⟩ := hA.pick (j := i) (by simpa using hlt)
        have hrow := hat i (by simpa using hlt)
        have hgo := Heap.get_ext_old hok hg
        have hw := wrap_succ (n := i) (by omega)
        have hci : (i : Int) < (l.length : Int) := by omega
        have hsi : i + 1 ≤ l.length := by omega
        have hget : l[i]? = some l[i] := List.getElem?_eq_getElem hlt
        cases hv
        simp only [go_sem, C4L2, Nat.reduceAdd, Nat.reduceSub, Nat.reduceMul, Nat.reduceDiv, Nat.reduceMod, Nat.reduceEqDiff, Nat.reduceLeDiff, Nat.reduceLT, Int.reduceLT, Int.reduceLE, Int.reduceEq, Int.reduceToNat, reduceIte, reduceCtorEq, List.length_map, hw, hgo, hrow, hci, hsi, List.getElem?_eq_getElem hlt, Cell.enc]
        have hl0 : laterOk l l[i].key i (i + 1) := fun j' d h1 h2 => by omega
        have hw2 : ((i + 1 : Nat) : Int) = (i : Int) + 1 := by omega
        refine LL.st good_EI (fun j : Nat => l.length - j) (fun j => i < j ∧ j ≤ l.length)
          (fun j => [(.z, .slice k (r * 5) (l.map Cell.enc).length 5 ex cap), ((.o (.o .z)), outV (H.key 0) 5 (builtL l).length), ((.o (.i .z)), .int .i64 (cnt l i)), ((.i (.i .z)), .int .i64 i), ((.o (.o (.o .z))), .bool (decide (laterOk l l[i].key i j))), ((.i (.o (.o .z))), .int .i64 j)])
          (fun j => [outB 5 ((builtL l).map Cell.enc)]) ?_ (i + 1) (σ := [0]) (Wk.mk' rfl (by decide) (by simp only [go_sem, hrho, List.length_map, hl0, decide_true, Nat.reduceAdd, Nat.reduceSub, Nat.reduceMul, Nat.reduceDiv, Nat.reduceMod, Nat.reduceEqDiff, Nat.reduceLeDiff, Nat.reduceLT, Int.reduceLT, Int.reduceLE, Int.reduceEq, Int.reduceToNat, reduceIte, reduceCtorEq]) (by intro p hp; simp only [List.zip_cons_cons, List.zip_nil_left, List.mem_singleton] at hp; subst hp; intro _; show _ = some (Blk.ren _ (outB 5 (List.map Cell.enc _))); rw [outB_ren]; first | rfl | (rw [hnew]; rfl))) ⟨by omega, by omega⟩
        rintro j ⟨hij, hjl⟩
        by_cases hltj : j < l.length
        · have hrowj := hat j (by simpa using hltj)
          have hwj := wrap_succ (n := j) (by omega)
          have hcij : (j : Int) < (l.length : Int) := by omega
          have hsij : j + 1 ≤ l.length := by omega
          have hgetj : l[j]? = some l[j] := List.getElem?_eq_getElem hltj
          have hnx := laterOk_next (k := l[i].key) hgetj hij
          have hnext : ∀ (b : Bool), b = decide (laterOk l l[i].key i (j + 1)) → True := fun _ _ => trivial
          by_cases hok1 : laterOk l l[i].key i j
          · simp only [go_sem, C4L1, Nat.reduceAdd, Nat.reduceSub, Nat.reduceMul, Nat.reduceDiv, Nat.reduceMod, Nat.reduceEqDiff, Nat.reduceLeDiff, Nat.reduceLT, Int.reduceLT, Int.reduceLE, Int.reduceEq, Int.reduceToNat, reduceIte, reduceCtorEq, List.length_map, hw, hgo, hrow, hci, hsi, List.getElem?_eq_getElem hlt, Cell.enc, hrowj, hwj, hcij, hsij, hgetj, hok1, decide_true, e24']
            refine ⟨fun a1 => ⟨fun a2 => ?_, fun a2 => ?_⟩, fun a1 => ?_⟩
            · have hnew : decide (laterOk l l[i].key i (j + 1)) = false := decide_eq_false fun h => (hnx.1 h).2 ⟨a1, a2⟩
              refine ⟨j + 1, by show l.length - (j + 1) < l.length - j; omega, ⟨by omega, by omega⟩, _, [0], rfl, Wk.mk' rfl (by decide) (by simp only [go_sem, hrho, List.length_map, hnew, Nat.reduceAdd, Nat.reduceSub, Nat.reduceMul, Nat.reduceDiv, Nat.reduceMod, Nat.reduceEqDiff, Nat.reduceLeDiff, Nat.reduceLT, Int.reduceLT, Int.reduceLE, Int.reduceEq, Int.reduceToNat, reduceIte, reduceCtorEq]) (by intro p hp; simp only [List.zip_cons_cons, List.zip_nil_left, List.mem_singleton] at hp; subst hp; intro _; show _ = some (Blk.ren _ (outB 5 (List.map Cell.enc _))); rw [outB_ren]; first | rfl | (rw [hnew]; rfl))⟩
            · have hnew : decide (laterOk l l[i].key i (j + 1)) = true := decide_eq_true (hnx.2 ⟨hok1, fun h => a2 h.2⟩)
              refine ⟨j + 1, by show l.length - (j + 1) < l.length - j; omega, ⟨by omega, by omega⟩, _, [0], rfl, Wk.mk' rfl (by decide) (by simp only [go_sem, hrho, List.length_map, hnew, Nat.reduceAdd, Nat.reduceSub, Nat.reduceMul, Nat.reduceDiv, Nat.reduceMod, Nat.reduceEqDiff, Nat.reduceLeDiff, Nat.reduceLT, Int.reduceLT, Int.reduceLE, Int.reduceEq, Int.reduceToNat, reduceIte, reduceCtorEq]) (by intro p hp; simp only [List.zip_cons_cons, List.zip_nil_left, List.mem_singleton] at hp; subst hp; intro _; show _ = some (Blk.ren _ (outB 5 (List.map Cell.enc _))); rw [outB_ren]; first | rfl | (rw [hnew]; rfl))⟩
            · have hnew : decide (laterOk l l[i].key i (j + 1)) = true := decide_eq_true (hnx.2 ⟨hok1, fun h => a1 h.1⟩)
              refine ⟨j + 1, by show l.length - (j + 1) < l.length - j; omega, ⟨by omega, by omega⟩, _, [0], rfl, Wk.mk' rfl (by decide) (by simp only [go_sem, hrho, List.length_map, hnew, Nat.reduceAdd, Nat.reduceSub, Nat.reduceMul, Nat.reduceDiv, Nat.reduceMod, Nat.reduceEqDiff, Nat.reduceLeDiff, Nat.reduceLT, Int.reduceLT, Int.reduceLE, Int.reduceEq, Int.reduceToNat, reduceIte, reduceCtorEq]) (by intro p hp; simp only [List.zip_cons_cons, List.zip_nil_left, List.mem_singleton] at hp; subst hp; intro _; show _ = some (Blk.ren _ (outB 5 (List.map Cell.enc _))); rw [outB_ren]; first | rfl | (rw [hnew]; rfl))⟩
          · simp only [go_sem, C4L1, Nat.reduceAdd, Nat.reduceSub, Nat.reduceMul, Nat.reduceDiv, Nat.reduceMod, Nat.reduceEqDiff, Nat.reduceLeDiff, Nat.reduceLT, Int.reduceLT, Int.reduceLE, Int.reduceEq, Int.reduceToNat, reduceIte, reduceCtorEq, List.length_map, hw, hgo, hrow, hci, hsi, List.getElem?_eq_getElem hlt, Cell.enc, hrowj, hwj, hcij, hsij, hgetj, hok1, decide_false, e24']
            have hnew : decide (laterOk l l[i].key i (j + 1)) = false := decide_eq_false fun h => hok1 (hnx.1 h).1
            refine ⟨j + 1, by show l.length - (j + 1) < l.length - j; omega, ⟨by omega, by omega⟩, _, [0], rfl, Wk.mk' rfl (by decide) (by simp only [go_sem, hrho, List.length_map, hnew, Nat.reduceAdd, Nat.reduceSub, Nat.reduceMul, Nat.reduceDiv, Nat.reduceMod, Nat.reduceEqDiff, Nat.reduceLeDiff, Nat.reduceLT, Int.reduceLT, Int.reduceLE, Int.reduceEq, Int.reduceToNat, reduceIte, reduceCtorEq]) (by intro p hp; simp only [List.zip_cons_cons, List.zip_nil_left, List.mem_singleton] at hp; subst hp; intro _; show _ = some (Blk.ren _ (outB 5 (List.map Cell.enc _))); rw [outB_ren]; first | rfl | (rw [hnew]; rfl))⟩
        · have hcj : ¬ (j : Int) < (l.length : Int) := by omega
          have hgood : goodAt l i ↔ cellIs l[i] ∧ laterOk l l[i].key i j := by
            rw [laterOk_all (by omega)]
            exact ⟨fun ⟨c, g1, g2, g3⟩ => by rw [hget] at g1; cases g1; exact ⟨g2, g3⟩, fun ⟨g2, g3⟩ => ⟨_, hget, g2, g3⟩⟩
          have hci1 := cnt_le l i
          have hwc := wrap_succ (n := cnt l i) (by omega)
          by_cases hg : laterOk l l[i].key i j
          · simp only [go_sem, C4L1, Nat.reduceAdd, Nat.reduceSub, Nat.reduceMul, Nat.reduceDiv, Nat.reduceMod, Nat.reduceEqDiff, Nat.reduceLeDiff, Nat.reduceLT, Int.reduceLT, Int.reduceLE, Int.reduceEq, Int.reduceToNat, reduceIte, reduceCtorEq, List.length_map, hw, hgo, hrow, hci, hsi, List.getElem?_eq_getElem hlt, Cell.enc, hcj, hg, decide_true]
            refine CL.bool (f24_ok l[i]) (fun h3 => ?_) (fun h3 => ?_)
            · have hnew := cnt_yes (hgood.2 ⟨h3, hg⟩)
              have hf := f13_ok (harr [outB 5 ((builtL l).map Cell.enc)] rfl) hml l[i].key
              rw [built_get hget h3 ((laterOk_all (by omega)).1 hg)] at hf
              simp only [go_sem, Nat.reduceAdd, Nat.reduceSub, Nat.reduceMul, Nat.reduceDiv, Nat.reduceMod, Nat.reduceEqDiff, Nat.reduceLeDiff, Nat.reduceLT, Int.reduceLT, Int.reduceLE, Int.reduceEq, Int.reduceToNat, reduceIte, reduceCtorEq, List.length_map, hw, hgo, hrow, hci, hsi, List.getElem?_eq_getElem hlt, Cell.enc, List.length_nil, List.map_nil, List.length_cons, List.map_cons, List.replicate_succ, List.replicate_zero, List.set_cons_zero, List.take_succ_cons, List.take_zero, List.take_nil, List.length_append, List.map_append, List.cons_append, List.nil_append, List.drop_succ_cons, List.append_nil, hwc]
              refine CL.of hf ?_
              rintro _ _ ⟨rfl, rfl⟩
              simp only [go_sem, Nat.reduceAdd, Nat.reduceSub, Nat.reduceMul, Nat.reduceDiv, Nat.reduceMod, Nat.reduceEqDiff, Nat.reduceLeDiff, Nat.reduceLT, Int.reduceLT, Int.reduceLE, Int.reduceEq, Int.reduceToNat, reduceIte, reduceCtorEq, List.length_map, hw, hgo, hrow, hci, hsi, List.getElem?_eq_getElem hlt, Cell.enc, List.length_nil, List.map_nil, List.length_cons, List.map_cons, List.replicate_succ, List.replicate_zero, List.set_cons_zero, List.take_succ_cons, List.take_zero, List.take_nil, List.length_append, List.map_append, List.cons_append, List.nil_append, List.drop_succ_cons, List.append_nil, eq_self, true_implies, not_true_eq_false, false_implies, and_true, true_and, decide_true]
              refine ⟨i + 1, by show l.length - (i + 1) < l.length - i; omega, ?_, _, [0], rfl, Wk.mk' rfl (by decide) (by simp only [go_sem, hrho, List.length_map, hnew, Nat.reduceAdd, Nat.reduceSub, Nat.reduceMul, Nat.reduceDiv, Nat.reduceMod, Nat.reduceEqDiff, Nat.reduceLeDiff, Nat.reduceLT, Int.reduceLT, Int.reduceLE, Int.reduceEq, Int.reduceToNat, reduceIte, reduceCtorEq]) (by intro p hp; simp only [List.zip_cons_cons, List.zip_nil_left, List.mem_singleton] at hp; subst hp; intro _; show _ = some (Blk.ren _ (outB 5 (List.map Cell.enc _))); rw [outB_ren]; first | rfl | (rw [hnew]; rfl))⟩
              omega
            · have hnew := cnt_no (l := l) (i := i) fun h => h3 (hgood.1 h).1
              simp only [go_sem, Nat.reduceAdd, Nat.reduceSub, Nat.reduceMul, Nat.reduceDiv, Nat.reduceMod, Nat.reduceEqDiff, Nat.reduceLeDiff, Nat.reduceLT, Int.reduceLT, Int.reduceLE, Int.reduceEq, Int.reduceToNat, reduceIte, reduceCtorEq, List.length_map, hw, hgo, hrow, hci, hsi, List.getElem?_eq_getElem hlt, Cell.enc, List.length_nil, List.map_nil, List.length_cons, List.map_cons, List.replicate_succ, List.replicate_zero, List.set_cons_zero, List.take_succ_cons, List.take_zero, List.take_nil, List.length_append, List.map_append, List.cons_append, List.nil_append, List.drop_succ_cons, List.append_nil]
              refine ⟨i + 1, by show l.length - (i + 1) < l.length - i; omega, ?_, _, [0], rfl, Wk.mk' rfl (by decide) (by simp only [go_sem, hrho, List.length_map, hnew, Nat.reduceAdd, Nat.reduceSub, Nat.reduceMul, Nat.reduceDiv, Nat.reduceMod, Nat.reduceEqDiff, Nat.reduceLeDiff, Nat.reduceLT, Int.reduceLT, Int.reduceLE, Int.reduceEq, Int.reduceToNat, reduceIte, reduceCtorEq]) (by intro p hp; simp only [List.zip_cons_cons, List.zip_nil_left, List.mem_singleton] at hp; subst hp; intro _; show _ = some (Blk.ren _ (outB 5 (List.map Cell.enc _))); rw [outB_ren]; first | rfl | (rw [hnew]; rfl))⟩
              omega
          · simp only [go_sem, C4L1, Nat.reduceAdd, Nat.reduceSub, Nat.reduceMul, Nat.reduceDiv, Nat.reduceMod, Nat.reduceEqDiff, Nat.reduceLeDiff, Nat.reduceLT, Int.reduceLT, Int.reduceLE, Int.reduceEq, Int.reduceToNat, reduceIte, reduceCtorEq, List.length_map, hw, hgo, hrow, hci, hsi, List.getElem?_eq_getElem hlt, Cell.enc, hcj, hg, decide_false]
            refine CL.bool (f24_ok l[i]) (fun h3 => ?_) (fun h3 => ?_)
            · have hnew := cnt_no (l := l) (i := i) fun h => hg (hgood.1 h).2
              simp only [go_sem, Nat.reduceAdd, Nat.reduceSub, Nat.reduceMul, Nat.reduceDiv, Nat.reduceMod, Nat.reduceEqDiff, Nat.reduceLeDiff, Nat.reduceLT, Int.reduceLT, Int.reduceLE, Int.reduceEq, Int.reduceToNat, reduceIte, reduceCtorEq, List.length_map, hw, hgo, hrow, hci, hsi, List.getElem?_eq_getElem hlt, Cell.enc, List.length_nil, List.map_nil, List.length_cons, List.map_cons, List.replicate_succ, List.replicate_zero, List.set_cons_zero, List.take_succ_cons, List.take_zero, List.take_nil, List.length_append, List.map_append, List.cons_append, List.nil_append, List.drop_succ_cons, List.append_nil]
              refine ⟨i + 1, by show l.length - (i + 1) < l.length - i; omega, ?_, _, [0], rfl, Wk.mk' rfl (by decide) (by simp only [go_sem, hrho, List.length_map, hnew, Nat.reduceAdd, Nat.reduceSub, Nat.reduceMul, Nat.reduceDiv, Nat.reduceMod, Nat.reduceEqDiff, Nat.reduceLeDiff, Nat.reduceLT, Int.reduceLT, Int.reduceLE, Int.reduceEq, Int.reduceToNat, reduceIte, reduceCtorEq]) (by intro p hp; simp only [List.zip_cons_cons, List.zip_nil_left, List.mem_singleton] at hp; subst hp; intro _; show _ = some (Blk.ren _ (outB 5 (List.map Cell.enc _))); rw [outB_ren]; first | rfl | (rw [hnew]; rfl))⟩
              omega
            · have hnew := cnt_no (l := l) (i := i) fun h => hg (hgood.1 h).2
              simp only [go_sem, Nat.reduceAdd, Nat.reduceSub, Nat.reduceMul, Nat.reduceDiv, Nat.reduceMod, Nat.reduceEqDiff, Nat.reduceLeDiff, Nat.reduceLT, Int.reduceLT, Int.reduceLE, Int.reduceEq, Int.reduceToNat, reduceIte, reduceCtorEq, List.length_map, hw, hgo, hrow, hci, hsi, List.getElem?_eq_getElem hlt, Cell.enc, List.length_nil, List.map_nil, List.length_cons, List.map_cons, List.replicate_succ, List.replicate_zero, List.set_cons_zero, List.take_succ_cons, List.take_zero, List.take_nil, List.length_append, List.map_append, List.cons_append, List.nil_append, List.drop_succ_cons, List.append_nil]
              refine ⟨i + 1, by show l.length - (i + 1) < l.length - i; omega, ?_, _, [0], rfl, Wk.mk' rfl (by decide) (by simp only [go_sem, hrho, List.length_map, hnew, Nat.reduceAdd, Nat.reduceSub, Nat.reduceMul, Nat.reduceDiv, Nat.reduceMod, Nat.reduceEqDiff, Nat.reduceLeDiff, Nat.reduceLT, Int.reduceLT, Int.reduceLE, Int.reduceEq, Int.reduceToNat, reduceIte, reduceCtorEq]) (by intro p hp; simp only [List.zip_cons_cons, List.zip_nil_left, List.mem_singleton] at hp; subst hp; intro _; show _ = some (Blk.ren _ (outB 5 (List.map Cell.enc _))); rw [outB_ren]; first | rfl | (rw [hnew]; rfl))⟩
              omega
      · have hci : ¬ (i : Int) < (l.length : Int) := by omega
        have hil : i = l.length := by omega
        subst hil
        simp only [go_sem, C4L2, Nat.reduceAdd, Nat.reduceSub, Nat.reduceMul, Nat.reduceDiv, Nat.reduceMod, Nat.reduceEqDiff, Nat.reduceLeDiff, Nat.reduceLT, Int.reduceLT, Int.reduceLE, Int.reduceEq, Int.reduceToNat, reduceIte, reduceCtorEq, List.length_map, hci]
        rw [cnt_built]
        rcases Nat.eq_zero_or_pos (builtL l).length with h0 | h0
        · simp only [go_sem, Nat.reduceAdd, Nat.reduceSub, Nat.reduceMul, Nat.reduceDiv, Nat.reduceMod, Nat.reduceEqDiff, Nat.reduceLeDiff, Nat.reduceLT, Int.reduceLT, Int.reduceLE, Int.reduceEq, Int.reduceToNat, reduceIte, reduceCtorEq, h0, Int.ofNat_zero, eq_self, true_implies, not_true_eq_false, false_implies, and_true, true_and, decide_true]
          first | exact ⟨rfl, _, rfl⟩ | exact ⟨_, rfl⟩
        · simp only [go_sem, Nat.reduceAdd, Nat.reduceSub, Nat.reduceMul, Nat.reduceDiv, Nat.reduceMod, Nat.reduceEqDiff, Nat.reduceLeDiff, Nat.reduceLT, Int.reduceLT, Int.reduceLE, Int.reduceEq, Int.reduceToNat, reduceIte, reduceCtorEq, outV_pos h0, eq_self, true_implies, not_true_eq_false, false_implies, and_true, true_and, decide_true]
          first | exact ⟨rfl, _, rfl⟩ | exact ⟨_, rfl⟩
  · simp only [go_sem, Nat.reduceAdd, Nat.reduceSub, Nat.reduceMul, Nat.reduceDiv, Nat.reduceMod, Nat.reduceEqDiff, Nat.reduceLeDiff, Nat.reduceLT, Int.reduceLT, Int.reduceLE, Int.reduceEq, Int.reduceToNat, reduceIte, reduceCtorEq, List.length_nil, List.map_nil, List.length_cons, List.map_cons, List.replicate_succ, List.replicate_zero, List.set_cons_zero, List.take_succ_cons, List.take_zero, List.take_nil, List.length_append, List.map_append, List.cons_append, List.nil_append, List.drop_succ_cons, List.append_nil]
    exact ⟨_, rfl⟩

end Go.Proofs
/- index: the rows of cells that are told by marks, the plain law. -/

set_option linter.all false
set_option maxRecDepth 100000
namespace Go.Proofs
open Go Go.Ev
def markC (i : Nat) (d : Bool) : Cell := ⟨[97 + i], [], ((i + 1 : Nat) : Int), d, 0⟩
def markL : List Bool → Nat → List Cell
  | [], _ => []
  | d :: l, i => markC i d :: markL l (i + 1)
theorem lt1 {a b : Nat} : ltS [97 + a] [97 + b] ↔ a < b := by
  rw [ltS_cons]
  constructor
  · rintro (h | ⟨_, h⟩)
    · omega
    · exact absurd h (ltS_irrefl _)
  · intro h; exact .inl (by omega)
theorem markC_is {i : Nat} {d : Bool} (h : i < 1000) : cellIs (markC i d) := by
  refine ⟨⟨isKey1 _, by simp [markC], fun _ => rfl, ?_, ?_⟩, ?_, ?_⟩ <;> simp only [markC] <;> omega
theorem markL_len : ∀ (l : List Bool) (i : Nat), (markL l i).length = l.length
  | [], _ => rfl
  | d :: l, i => by simp [markL, markL_len l]
theorem markL_next {l : List Bool} {i : Nat} {d : Bool} (h : l[i]? = some d) (hi : i < 1000) : withC (markL (l.drop (i + 1)) (i + 1)) (markC i d) = markL (l.drop i) i := by
  obtain ⟨hl, rfl⟩ := List.getElem?_eq_some_iff.1 h
  rw [List.drop_eq_getElem_cons hl, markL, withC, if_pos (markC_is hi)]
  cases hd : markL (l.drop (i + 1)) (i + 1) with
  | nil => rfl
  | cons x xs =>
    have hx : x.key = [97 + (i + 1)] := by
      cases h2 : l.drop (i + 1) with
      | nil => rw [h2] at hd; cases hd
      | cons y ys => rw [h2] at hd; cases hd; rfl
    have h1 : ¬ ltS x.key (markC i l[i]).key := by rw [hx]; show ¬ ltS [97 + (i + 1)] [97 + i]; rw [lt1]; omega
    have h2 : ¬ x.key = (markC i l[i]).key := by rw [hx]; show ¬ [97 + (i + 1)] = [97 + i]; simp
    rw [withL, if_neg h1, if_neg h2]
theorem lt2 {x y : Nat} : ltS [x] [y] ↔ x < y := by
  rw [ltS_cons]
  exact ⟨fun h => h.elim id fun h => absurd h.2 (ltS_irrefl _), .inl⟩
theorem has1 {x y z : Nat} : has [x] [y] [z] ↔ x ≤ z ∧ z < y := by
  unfold has isSpan
  rw [lt2, lt2, lt2]
  constructor
  · rintro ⟨_, _, h1, h2⟩
    rcases h2 with h2 | h2
    · exact absurd h2 (by simp)
    · omega
  · rintro ⟨h1, h2⟩
    exact ⟨⟨by simp, by simp, .inr (by omega)⟩, isKey1 _, by omega, .inr h2⟩
/-- the marks that are told -/
noncomputable def wantL (l : List Bool) (x y : Nat) (i : Nat) : List Nat := (List.range i).filter fun j => decide (l[j]? = some false ∧ x ≤ 97 + j ∧ 97 + j < y)
theorem markL_range : ∀ (l : List Bool) (i : Nat), markL l i = (List.range l.length).map fun j => markC (i + j) (l[j]?.getD true)
  | [], _ => rfl
  | d :: l, i => by
    rw [markL, markL_range l (i + 1), List.length_cons, List.range_succ_eq_map, List.map_cons, List.map_map]
    congr 1
    refine List.map_congr_left fun j _ => ?_
    simp only [Function.comp, List.getElem?_cons_succ]
    rw [show i + 1 + j = i + (j + 1) by omega]
theorem rows_mark (l : List Bool) (x y : Nat) (n : Int) : rowsL [x] [y] n (markL l 0) = ((wantL l x y l.length).take n.toNat).map fun j => markC j false := by
  unfold rowsL wantL
  rw [markL_range, List.filter_map, List.map_take]
  congr 1
  refine Eq.trans (List.map_congr_left (g := fun j => markC j false) fun j hj => ?_) (congrArg _ ?_)
  · simp only [List.mem_filter, List.mem_range, Function.comp, decide_eq_true_eq, Nat.zero_add] at hj ⊢
    have h2 := hj.2.2.2
    simp only [markC] at h2
    rw [h2]
  · refine List.filter_congr fun j hj => ?_
    simp only [Function.comp, Nat.zero_add]
    rw [Bool.eq_iff_iff, decide_eq_true_eq, decide_eq_true_eq]
    show has [x] [y] [97 + j] ∧ there (markC j _) ↔ _
    rw [has1]
    have hjl := List.mem_range.1 hj
    rw [List.getElem?_eq_getElem hjl]
    simp only [there, markC, Option.getD_some, Option.some.injEq]
    constructor
    · rintro ⟨h1, _, h3⟩; exact ⟨h3, h1⟩
    · rintro ⟨h1, h2⟩; exact ⟨h2, by omega, h1⟩
end Go.Proofs
/- Conversions, as rules. -/

set_option linter.all false
namespace Go.Ev
@[go_sem] theorem convR_int (k : IntKind) (x : X) (T : Tr AV) (H : Heap) : convR (.int k) x T H = withX T x .fail fun v => asIntC v .fail fun _ n => wrapC k n fun n => .val (.int k n) H := rfl
@[go_sem] theorem convR_b2s (x : X) (T : Tr AV) (H : Heap) : convR .b2s x T H = withX T x .fail fun v => asSliceC v .fail (.val (.str []) H) fun k off len _ _ _ => loadC H k off len .fail fun l => bytesC l .fail fun ns => .val (.str ns) H := rfl
end Go.Ev
/- Slices that may be nil, handled as one: rules. -/

set_option linter.all false
namespace Go.Ev
variable {P : Program} {H : Heap}
theorem outV_ren' (ρ : K → K) (k : K) (e n : Nat) : AV.ren ρ (outV k e n) = outV (ρ k) e n := by
  cases n with
  | zero => show AV.ren ρ .nils = .nils; rw [AV.ren]
  | succ n => show AV.ren ρ (.slice k 0 (n + 1) e false (n + 1)) = .slice (ρ k) 0 (n + 1) e false (n + 1); rw [AV.ren]
theorem outB_ren' (ρ : K → K) {e : Nat} {xs : List (List AV)} (h : xs.map (AV.rens ρ) = xs) : Blk.ren ρ (outB e xs) = outB e xs := by
  cases xs with
  | nil => rfl
  | cons x xs => show Blk.row true e ((x :: xs).map (AV.rens ρ)) = Blk.row true e (x :: xs); rw [h]
theorem outB_pos {e : Nat} {xs : List (List AV)} (h : 0 < xs.length) : outB e xs = .row true e xs := by
  cases xs with
  | nil => exact absurd h (by decide)
  | cons x xs => rfl
theorem outB_snoc (e : Nat) (xs : List (List AV)) (y : List AV) : outB e (xs ++ [y]) = .row true e (xs ++ [y]) := outB_pos (by simp)
@[go_sem] theorem len_out (k : K) (e n : Nat) (G : Heap) : asSliceC (outV k e n) R1.fail (R1.val (AV.int IntKind.i64 0) G) (fun _ _ len _ _ _ => R1.val (AV.int IntKind.i64 (len : Int)) G) = R1.val (.int .i64 n) G := by
  cases n with
  | zero => rfl
  | succ n => rfl
theorem Arr.len {v : AV} {esz : Nat} {xs : List (List AV)} (h : Arr H esz v xs) (G : Heap) : asSliceC v R1.fail (R1.val (AV.int IntKind.i64 0) G) (fun _ _ len _ _ _ => R1.val (AV.int IntKind.i64 (len : Int)) G) = R1.val (.int .i64 xs.length) G := by
  rcases h.forms with ⟨rfl, rfl⟩ | ⟨k, off, ex, cap, rfl, _⟩ <;> rfl
theorem Arr.at {v : AV} {esz : Nat} {xs : List (List AV)} (hok : H.ok) (h : Arr H esz v xs) {j : Nat} (hj : j < xs.length) : ∃ k r ex cap wr rows, v = .slice k (r * esz) xs.length esz ex cap ∧ (∀ top σ, rho H top σ k = k) ∧ (∀ L, (H.ext L).get k = some (.row wr esz rows)) ∧ rows[r + j]? = some xs[j] := by
  obtain ⟨k, r, ex, cap, wr, rows, e, hk, hg, _, hat⟩ := h.pick hj
  exact ⟨k, r, ex, cap, wr, rows, e, fun _ _ => rho_old hk, Heap.get_ext_old hok hg, by rw [hat j hj, List.getElem?_eq_getElem hj]⟩
theorem bytesC_one {β : Type} {m : Nat} (h : m ≤ 255) (f : β) (c : List Nat → β) : bytesC [.int .u8 (m : Int)] f c = c [m] := by
  show bif' (Nat.beq (kn .u8) 4) (bif' (Nat.ble m 255) (c [m]) f) f = c [m]
  rw [show Nat.beq (kn .u8) 4 = true from rfl, bif_true, show Nat.ble m 255 = true by rw [Nat.ble_eq]; exact h, bif_true]
theorem wrap_u8 {m : Nat} (h : m ≤ 255) : IntKind.u8.wrap (m : Int) = m := wrap_nat .u8 m h
/-- one more put behind a list that may be none: the old block is let go -/
theorem appR_out {L : List Blk} {i j n esz bytes : Nat} {xs : List (List AV)} {y : List AV} {x z : X} {T : Tr AV} {wr ex : Bool} {cap : Nat} (hx : evX T x = some (outV (H.key i) esz n)) (hz : evX T z = some (.slice (H.key j) 0 1 esz ex cap))
    (hi : L[i]? = some (outB esz xs)) (hn : xs.length = n) (hj : L[j]? = some (.row wr esz [y])) (hb : okBig (n + 1) bytes = true) :
    appR esz bytes x z T (H.ext L) = .val (outV (H.key L.length) esz (n + 1)) (H.ext (L.set i .dead ++ [outB esz (xs ++ [y])])) := by
  have hxw : ∀ {f : R1} {c : AV → R1}, withX T x f c = c (outV (H.key i) esz n) := by intro f c; unfold withX; rw [hx]
  have hzw : ∀ {f : R1} {c : AV → R1}, withX T z f c = c (.slice (H.key j) 0 1 esz ex cap) := by intro f c; unfold withX; rw [hz]
  have hil := (List.getElem?_eq_some_iff.1 hi).1
  have hjl := (List.getElem?_eq_some_iff.1 hj).1
  have hb1 : (2 * (n + 1) + 192) * bytes ≤ 281474976710656 := by unfold okBig at hb; rwa [Nat.ble_eq] at hb
  unfold appR
  rw [hxw, hzw]
  cases xs with
  | nil =>
    obtain rfl : n = 0 := hn.symm
    have hset : L.set i .dead = L := by
      refine List.ext_getElem? fun m => ?_
      rw [List.getElem?_set]
      split
      · rename_i hm; subst hm; rw [hi]; first | rfl | (rw [if_pos hil]; rfl)
      · rfl
    simp only [go_sem, Heap.get_ext_key _ _ _ hjl, hj, List.drop_zero, List.take_succ_cons, List.take_zero, List.length_cons, List.length_nil, Nat.zero_mod, Nat.zero_div, Nat.reduceAdd, Nat.reduceSub, Nat.reduceMul, Nat.reduceDiv, Nat.reduceMod, Nat.reduceEqDiff, Nat.reduceLeDiff, Nat.reduceLT, reduceIte, hset, List.nil_append]
    rw [if_pos (by simpa using hb1)]
  | cons a xs =>
    subst hn
    rw [outV_pos (by simp)]
    simp only [go_sem, Heap.get_ext_key _ _ _ hjl, Heap.get_ext_key _ _ _ hil, hi, hj, List.drop_zero, List.take_succ_cons, List.take_zero, List.length_cons, List.length_nil, Nat.zero_mod, Nat.zero_div, Nat.reduceAdd, Nat.reduceSub, Nat.reduceMul, Nat.reduceDiv, Nat.reduceMod, Nat.reduceEqDiff, Nat.reduceLeDiff, Nat.reduceLT, reduceIte, List.take_length, List.cons_append]
    rw [if_pos (Nat.le_refl _), if_neg (by omega), if_pos (by simpa using hb1), Heap.setC_ext _ _ _ _ _ hil, Heap.addC_ext, List.length_set]
/-- an append whose operands are seen, left as it is -/
noncomputable def appQ (esz bytes : Nat) (a b : Option AV) (H : Heap) : R1 := match a, b with
  | some v, some w => appR esz bytes (.c v) (.c w) .lf H
  | _, _ => .fail
theorem appR_hide (esz bytes : Nat) (a b : K) (T : Tr AV) (H : Heap) : appR esz bytes (.t a) (.t b) T H = appQ esz bytes (T.get a) (T.get b) H := by
  unfold appR appQ
  simp only [withX_t, withX_c]
  cases T.get a <;> cases T.get b <;> rfl
theorem okBig_le {n bytes : Nat} (h : n ≤ 1000000000) (hb : bytes ≤ 1000) : okBig n bytes = true := by
  unfold okBig
  rw [Nat.ble_eq]
  exact Nat.le_trans (Nat.mul_le_mul (Nat.add_le_add (Nat.mul_le_mul (Nat.le_refl 2) h) (Nat.le_refl _)) hb) (by decide)
/-- the same, ahead of what is still to be done -/
theorem RW_app {E : FuncId → List AV → Heap → RC} {N : Nat} {k : List It} {Q : Ex → Tr AV → Heap → Prop} {d : Option K} {T' : Tr AV} {G : Heap} {L : List Blk} {esz bytes i j n : Nat} (xs : List (List AV)) (y : List AV) {wr ex : Bool} {cap : Nat}
    (hi : L[i]? = some (outB esz xs)) (hn : xs.length = n) (hj : L[j]? = some (.row wr esz [y])) (hb : okBig (n + 1) bytes = true)
    (h : WW P E N H k (putD T' d (outV (H.key L.length) esz (n + 1))) (H.ext (L.set i .dead ++ [outB esz (xs ++ [y])])) Q) : RW P E N H (appQ esz bytes (some (outV (H.key i) esz n)) (some (.slice (H.key j) 0 1 esz ex cap)) (H.ext L)) d k T' G Q := by
  show RW P E N H (appR esz bytes (.c (outV (H.key i) esz n)) (.c (.slice (H.key j) 0 1 esz ex cap)) .lf (H.ext L)) d k T' G Q
  rw [appR_out rfl rfl hi hn hj hb]
  exact h
/-- the blocks that are kept, one after the other -/
def WkB (l : List Blk) (ρ : K → K) : List Blk → List Nat → Prop
  | b :: bs, i :: σ => (b.live → l[i]? = some (b.ren ρ)) ∧ WkB l ρ bs σ
  | _, _ => True
@[go_sem] theorem WkB_nil (l : List Blk) (ρ : K → K) (σ : List Nat) : WkB l ρ [] σ = True := by cases σ <;> rfl
@[go_sem] theorem WkB_cons (l : List Blk) (ρ : K → K) (b bs i σ) : WkB l ρ (b :: bs) (i :: σ) = ((b.live → l[i]? = some (b.ren ρ)) ∧ WkB l ρ bs σ) := rfl
theorem WkB.all {l : List Blk} {ρ : K → K} : ∀ {bs : List Blk} {σ : List Nat}, WkB l ρ bs σ → ∀ p ∈ bs.zip σ, p.1.live → l[p.2]? = some (p.1.ren ρ)
  | [], _, _, p, hp => by simp at hp
  | _ :: _, [], _, p, hp => by simp at hp
  | b :: bs, i :: σ, h, p, hp => by
    rw [List.zip_cons_cons, List.mem_cons] at hp
    rcases hp with rfl | hp
    · exact h.1
    · exact WkB.all h.2 p hp
theorem Wk.of {H : Heap} {T : Tr AV} {l : List Blk} {ts : List (K × AV)} {l2 : List Blk} {σ : List Nat} (h1 : l2.length = σ.length) (h2 : σ.Nodup) (h3 : ∀ p ∈ ts, T.get p.1 = some (p.2.ren (rho H l.length σ))) (h4 : WkB l (rho H l.length σ) l2 σ) : Wk H T l ts l2 σ := .mk' h1 h2 h3 h4.all
end Go.Ev
