/- token: whether they are any, a key's version, the same, few: walked. -/
import Derived.Test.YtiadcabmonbgiaaZ14
set_option linter.all false
set_option maxRecDepth 100000
namespace Go.Proofs
open Go Go.Ev
variable {H : Heap}

theorem f39_ok {v : AV} {l : List Sn} (hA : Arr H 2 v (l.map Sn.enc)) (hl : l.length < 9223372036854775807) :
    FnOk Try.prog 39 [v] H fun r G => r = .bool (decide (isTok l)) ∧ G = H := by
  refine FnOk.assume fun hok => ?_
  refine FnOk.drop (R := fun r => r = .bool (decide (isTok l))) ?_ (by rintro v rfl ρ; rw [AV.ren])
  refine FnOk.of_WW Try.func39 rfl C39ok R39ok E0 good_E0 ?_
  have hlen := fun G => hA.len G; simp only [List.length_map] at hlen; have hren := hA.ren
  simp only [go_sem, C39, Nat.reduceAdd, Nat.reduceSub, Nat.reduceMul, Nat.reduceDiv, Nat.reduceMod, Nat.reduceEqDiff, Nat.reduceLeDiff, Nat.reduceLT, Int.reduceLT, Int.reduceLE, Int.reduceEq, Int.reduceToNat, reduceIte, reduceCtorEq, hlen]
  refine LL.st good_E0 (fun i : Nat => l.length - i) (fun i => i ≤ l.length ∧ ∀ j, j < i → okT l j)
    (fun i => [(.z, v), ((.o (.i .z)), v), ((.i (.i .z)), .int .i64 l.length), ((.o (.o (.o .z))), .int .i64 i)]) (fun i => []) ?_ 0 (σ := []) (Wk.of rfl (by decide) (by simp only [go_sem, hren, List.length_nil, List.map_nil, List.length_cons, List.map_cons, List.replicate_succ, List.replicate_zero, List.set_cons_zero, List.set_cons_succ, List.take_succ_cons, List.take_zero, List.take_nil, List.length_append, List.map_append, List.cons_append, List.nil_append, List.drop_succ_cons, List.drop_zero, List.append_nil, List.getElem?_cons_zero, List.getElem?_cons_succ, Nat.reduceAdd, Nat.reduceSub, Nat.reduceMul, Nat.reduceDiv, Nat.reduceMod, Nat.reduceEqDiff, Nat.reduceLeDiff, Nat.reduceLT, Int.reduceLT, Int.reduceLE, Int.reduceEq, Int.reduceToNat, reduceIte, reduceCtorEq]) (by simp only [go_sem, List.length_nil, List.map_nil, List.length_cons, List.map_cons, List.replicate_succ, List.replicate_zero, List.set_cons_zero, List.set_cons_succ, List.take_succ_cons, List.take_zero, List.take_nil, List.length_append, List.map_append, List.cons_append, List.nil_append, List.drop_succ_cons, List.drop_zero, List.append_nil, List.getElem?_cons_zero, List.getElem?_cons_succ, Nat.reduceAdd, Nat.reduceSub, Nat.reduceMul, Nat.reduceDiv, Nat.reduceMod, Nat.reduceEqDiff, Nat.reduceLeDiff, Nat.reduceLT, Int.reduceLT, Int.reduceLE, Int.reduceEq, Int.reduceToNat, reduceIte, reduceCtorEq, eq_self, true_implies, not_true_eq_false, not_false_eq_true, false_implies, and_true, true_and, decide_true, decide_false, Bool.not_true, Bool.not_false])) ⟨Nat.zero_le _, fun j h => absurd h (Nat.not_lt_zero _)⟩
  rintro i ⟨hi, hno⟩
  by_cases hlt : i < l.length
  · obtain ⟨kk, r, ex', cap', wr, rows, hv, hrho, hgo, hrow⟩ := hA.at hok (j := i) (by rw [List.length_map]; exact hlt); simp only [List.length_map, List.getElem_map] at hv hrow; cases hv; have hget : l[i]? = some l[i] := List.getElem?_eq_getElem hlt; generalize l[i] = c at hrow hget; have hw := wrap_succ (n := i) (by omega); have hci : (i : Int) < (l.length : Int) := (by omega); have hsi : i + 1 ≤ l.length := (by omega)
    have hbad : ¬ okT l i → AV.bool false = .bool (decide (isTok l)) := fun h => bool_f fun g => h (g i hlt)
    simp only [go_sem, C39L0, Nat.reduceAdd, Nat.reduceSub, Nat.reduceMul, Nat.reduceDiv, Nat.reduceMod, Nat.reduceEqDiff, Nat.reduceLeDiff, Nat.reduceLT, Int.reduceLT, Int.reduceLE, Int.reduceEq, Int.reduceToNat, reduceIte, reduceCtorEq, List.length_nil, List.map_nil, List.length_cons, List.map_cons, List.replicate_succ, List.replicate_zero, List.set_cons_zero, List.set_cons_succ, List.take_succ_cons, List.take_zero, List.take_nil, List.length_append, List.map_append, List.cons_append, List.nil_append, List.drop_succ_cons, List.drop_zero, List.append_nil, List.getElem?_cons_zero, List.getElem?_cons_succ, eq_self, true_implies, not_true_eq_false, not_false_eq_true, false_implies, and_true, true_and, decide_true, decide_false, Bool.not_true, Bool.not_false, hci, hsi, hgo, hrow, hw, Sn.enc]
    refine CL.bool (f59_ok c.key) (fun g1 => ?_) (fun g1 => ?_)
    · simp only [go_sem, Nat.reduceAdd, Nat.reduceSub, Nat.reduceMul, Nat.reduceDiv, Nat.reduceMod, Nat.reduceEqDiff, Nat.reduceLeDiff, Nat.reduceLT, Int.reduceLT, Int.reduceLE, Int.reduceEq, Int.reduceToNat, reduceIte, reduceCtorEq, List.length_nil, List.map_nil, List.length_cons, List.map_cons, List.replicate_succ, List.replicate_zero, List.set_cons_zero, List.set_cons_succ, List.take_succ_cons, List.take_zero, List.take_nil, List.length_append, List.map_append, List.cons_append, List.nil_append, List.drop_succ_cons, List.drop_zero, List.append_nil, List.getElem?_cons_zero, List.getElem?_cons_succ, eq_self, true_implies, not_true_eq_false, not_false_eq_true, false_implies, and_true, true_and, decide_true, decide_false, Bool.not_true, Bool.not_false, hw]
      refine ⟨fun g2 => ⟨hbad ?_, _, rfl⟩, fun g2 => ⟨fun g3 => ⟨hbad ?_, _, rfl⟩, fun g3 => ?_⟩⟩
      · rintro ⟨c', h1, ⟨_, h2, _⟩, _⟩; rw [hget] at h1; cases h1; omega
      · rintro ⟨c', h1, ⟨_, _, h2⟩, _⟩; rw [hget] at h1; cases h1; omega
      · have hk : okS c := ⟨g1, by omega, by omega⟩
        rcases i with _ | i
        · simp only [go_sem, Nat.reduceAdd, Nat.reduceSub, Nat.reduceMul, Nat.reduceDiv, Nat.reduceMod, Nat.reduceEqDiff, Nat.reduceLeDiff, Nat.reduceLT, Int.reduceLT, Int.reduceLE, Int.reduceEq, Int.reduceToNat, reduceIte, reduceCtorEq, List.length_nil, List.map_nil, List.length_cons, List.map_cons, List.replicate_succ, List.replicate_zero, List.set_cons_zero, List.set_cons_succ, List.take_succ_cons, List.take_zero, List.take_nil, List.length_append, List.map_append, List.cons_append, List.nil_append, List.drop_succ_cons, List.drop_zero, List.append_nil, List.getElem?_cons_zero, List.getElem?_cons_succ, eq_self, true_implies, not_true_eq_false, not_false_eq_true, false_implies, and_true, true_and, decide_true, decide_false, Bool.not_true, Bool.not_false, Int.ofNat_zero, Int.lt_irrefl]
          refine ⟨0 + 1, by show l.length - (0 + 1) < l.length - 0; omega, ⟨by omega, fun j hj => ?_⟩, _, [], rfl, Wk.of rfl (by decide) (by simp only [go_sem, hren, hrho, hw, List.length_nil, List.map_nil, List.length_cons, List.map_cons, List.replicate_succ, List.replicate_zero, List.set_cons_zero, List.set_cons_succ, List.take_succ_cons, List.take_zero, List.take_nil, List.length_append, List.map_append, List.cons_append, List.nil_append, List.drop_succ_cons, List.drop_zero, List.append_nil, List.getElem?_cons_zero, List.getElem?_cons_succ, Nat.reduceAdd, Nat.reduceSub, Nat.reduceMul, Nat.reduceDiv, Nat.reduceMod, Nat.reduceEqDiff, Nat.reduceLeDiff, Nat.reduceLT, Int.reduceLT, Int.reduceLE, Int.reduceEq, Int.reduceToNat, reduceIte, reduceCtorEq]) (by simp only [go_sem, List.length_nil, List.map_nil, List.length_cons, List.map_cons, List.replicate_succ, List.replicate_zero, List.set_cons_zero, List.set_cons_succ, List.take_succ_cons, List.take_zero, List.take_nil, List.length_append, List.map_append, List.cons_append, List.nil_append, List.drop_succ_cons, List.drop_zero, List.append_nil, List.getElem?_cons_zero, List.getElem?_cons_succ, Nat.reduceAdd, Nat.reduceSub, Nat.reduceMul, Nat.reduceDiv, Nat.reduceMod, Nat.reduceEqDiff, Nat.reduceLeDiff, Nat.reduceLT, Int.reduceLT, Int.reduceLE, Int.reduceEq, Int.reduceToNat, reduceIte, reduceCtorEq, eq_self, true_implies, not_true_eq_false, not_false_eq_true, false_implies, and_true, true_and, decide_true, decide_false, Bool.not_true, Bool.not_false])⟩
          obtain rfl : j = 0 := by omega
          exact ⟨c, hget, hk, fun h => absurd h (by decide)⟩
        · have hpos : (0 : Int) < ((i + 1 : Nat) : Int) := by omega
          have hp : IntKind.i64.wrap (((i + 1 : Nat) : Int) - 1) = (i : Int) := by rw [wrap_i64 (by omega) (by omega)]; omega
          have hltj : i < l.length := by omega
          obtain ⟨kk2, r2, ex2, cap2, wr2, rows2, hv2, _, hgo2, hrow2⟩ := hA.at hok (j := i) (by rw [List.length_map]; exact hltj)
          simp only [List.length_map, List.getElem_map] at hv2 hrow2
          have hgetd : l[i]? = some l[i] := List.getElem?_eq_getElem hltj
          generalize l[i] = d at hrow2 hgetd
          injection hv2 with e1 e2 e3 e4 e5 e6
          have e2' : r2 = r := by omega
          subst e1 e2'
          have hrr := hgo2 []
          rw [hgo []] at hrr
          cases hrr
          have hsj : i + 1 ≤ l.length := by omega
          have hi0 : (0 : Int) ≤ (i : Int) := by omega
          simp only [go_sem, Nat.reduceAdd, Nat.reduceSub, Nat.reduceMul, Nat.reduceDiv, Nat.reduceMod, Nat.reduceEqDiff, Nat.reduceLeDiff, Nat.reduceLT, Int.reduceLT, Int.reduceLE, Int.reduceEq, Int.reduceToNat, reduceIte, reduceCtorEq, List.length_nil, List.map_nil, List.length_cons, List.map_cons, List.replicate_succ, List.replicate_zero, List.set_cons_zero, List.set_cons_succ, List.take_succ_cons, List.take_zero, List.take_nil, List.length_append, List.map_append, List.cons_append, List.nil_append, List.drop_succ_cons, List.drop_zero, List.append_nil, List.getElem?_cons_zero, List.getElem?_cons_succ, eq_self, true_implies, not_true_eq_false, not_false_eq_true, false_implies, and_true, true_and, decide_true, decide_false, Bool.not_true, Bool.not_false, hpos, hp, hi0, hsj, hgo, hrow2, Sn.enc]
          refine ⟨fun g4 => ⟨hbad ?_, _, rfl⟩, fun g4 => ?_⟩
          · rintro ⟨c', h1, _, h2⟩
            obtain ⟨d', h3, h4⟩ := h2 (by omega)
            rw [hget] at h1; cases h1
            rw [Nat.add_sub_cancel, hgetd] at h3; cases h3
            exact g4 h4
          · refine ⟨i + 1 + 1, by show l.length - (i + 1 + 1) < l.length - (i + 1); omega, ⟨by omega, fun j hj => ?_⟩, _, [], rfl, Wk.of rfl (by decide) (by simp only [go_sem, hren, hrho, hw, List.length_nil, List.map_nil, List.length_cons, List.map_cons, List.replicate_succ, List.replicate_zero, List.set_cons_zero, List.set_cons_succ, List.take_succ_cons, List.take_zero, List.take_nil, List.length_append, List.map_append, List.cons_append, List.nil_append, List.drop_succ_cons, List.drop_zero, List.append_nil, List.getElem?_cons_zero, List.getElem?_cons_succ, Nat.reduceAdd, Nat.reduceSub, Nat.reduceMul, Nat.reduceDiv, Nat.reduceMod, Nat.reduceEqDiff, Nat.reduceLeDiff, Nat.reduceLT, Int.reduceLT, Int.reduceLE, Int.reduceEq, Int.reduceToNat, reduceIte, reduceCtorEq]) (by simp only [go_sem, List.length_nil, List.map_nil, List.length_cons, List.map_cons, List.replicate_succ, List.replicate_zero, List.set_cons_zero, List.set_cons_succ, List.take_succ_cons, List.take_zero, List.take_nil, List.length_append, List.map_append, List.cons_append, List.nil_append, List.drop_succ_cons, List.drop_zero, List.append_nil, List.getElem?_cons_zero, List.getElem?_cons_succ, Nat.reduceAdd, Nat.reduceSub, Nat.reduceMul, Nat.reduceDiv, Nat.reduceMod, Nat.reduceEqDiff, Nat.reduceLeDiff, Nat.reduceLT, Int.reduceLT, Int.reduceLE, Int.reduceEq, Int.reduceToNat, reduceIte, reduceCtorEq, eq_self, true_implies, not_true_eq_false, not_false_eq_true, false_implies, and_true, true_and, decide_true, decide_false, Bool.not_true, Bool.not_false])⟩
            rcases Nat.lt_or_ge j (i + 1) with h | h
            · exact hno j h
            · obtain rfl : j = i + 1 := by omega
              exact ⟨c, hget, hk, fun _ => ⟨d, by rw [Nat.add_sub_cancel]; exact hgetd, Classical.not_not.1 g4⟩⟩
    · simp only [go_sem, Nat.reduceAdd, Nat.reduceSub, Nat.reduceMul, Nat.reduceDiv, Nat.reduceMod, Nat.reduceEqDiff, Nat.reduceLeDiff, Nat.reduceLT, Int.reduceLT, Int.reduceLE, Int.reduceEq, Int.reduceToNat, reduceIte, reduceCtorEq, List.length_nil, List.map_nil, List.length_cons, List.map_cons, List.replicate_succ, List.replicate_zero, List.set_cons_zero, List.set_cons_succ, List.take_succ_cons, List.take_zero, List.take_nil, List.length_append, List.map_append, List.cons_append, List.nil_append, List.drop_succ_cons, List.drop_zero, List.append_nil, List.getElem?_cons_zero, List.getElem?_cons_succ, eq_self, true_implies, not_true_eq_false, not_false_eq_true, false_implies, and_true, true_and, decide_true, decide_false, Bool.not_true, Bool.not_false]
      refine ⟨hbad ?_, _, rfl⟩
      rintro ⟨c', h1, ⟨h2, _⟩, _⟩; rw [hget] at h1; cases h1; exact g1 h2
  · have hci : ¬ (i : Int) < (l.length : Int) := by omega
    simp only [go_sem, C39L0, Nat.reduceAdd, Nat.reduceSub, Nat.reduceMul, Nat.reduceDiv, Nat.reduceMod, Nat.reduceEqDiff, Nat.reduceLeDiff, Nat.reduceLT, Int.reduceLT, Int.reduceLE, Int.reduceEq, Int.reduceToNat, reduceIte, reduceCtorEq, List.length_nil, List.map_nil, List.length_cons, List.map_cons, List.replicate_succ, List.replicate_zero, List.set_cons_zero, List.set_cons_succ, List.take_succ_cons, List.take_zero, List.take_nil, List.length_append, List.map_append, List.cons_append, List.nil_append, List.drop_succ_cons, List.drop_zero, List.append_nil, List.getElem?_cons_zero, List.getElem?_cons_succ, eq_self, true_implies, not_true_eq_false, not_false_eq_true, false_implies, and_true, true_and, decide_true, decide_false, Bool.not_true, Bool.not_false, hci]
    exact ⟨bool_t fun j hj => hno j (by omega), _, rfl⟩
noncomputable def ofT (l : List Sn) (k : List Nat) : Int := match getS l k with | some c => c.ver | none => 0
theorem getS_first : ∀ {l : List Sn} {i : Nat} {c : Sn}, l[i]? = some c → (∀ j d, j < i → l[j]? = some d → ¬ d.key = c.key) → getS l c.key = some c
  | [], i, c, h, _ => by simp at h
  | d :: l, 0, c, h, _ => by cases h; rw [getS, if_pos rfl]
  | d :: l, i + 1, c, h, hn => by rw [getS, if_neg (hn 0 d (by omega) rfl), getS_first (i := i) (by simpa using h) fun j e hj he => hn (j + 1) e (by omega) (by simpa using he)]
theorem f42_ok {v : AV} {l : List Sn} (hA : Arr H 2 v (l.map Sn.enc)) (hl : l.length < 9223372036854775807) (k : List Nat) :
    FnOk Try.prog 42 [v, .str k] H fun r G => r = .int .i64 (ofT l k) ∧ G = H := by
  refine FnOk.assume fun hok => ?_
  refine FnOk.drop (R := fun r => r = .int .i64 (ofT l k)) ?_ (by rintro v rfl ρ; rw [AV.ren])
  refine FnOk.of_WW Try.func42 rfl C42ok R42ok E0 good_E0 ?_
  have hlen := fun G => hA.len G; simp only [List.length_map] at hlen; have hren := hA.ren
  simp only [go_sem, C42, Nat.reduceAdd, Nat.reduceSub, Nat.reduceMul, Nat.reduceDiv, Nat.reduceMod, Nat.reduceEqDiff, Nat.reduceLeDiff, Nat.reduceLT, Int.reduceLT, Int.reduceLE, Int.reduceEq, Int.reduceToNat, reduceIte, reduceCtorEq, hlen]
  refine LL.st good_E0 (fun i : Nat => l.length - i) (fun i => i ≤ l.length ∧ ∀ j d, j < i → l[j]? = some d → ¬ d.key = k)
    (fun i => [((.o .z), .str k), ((.o (.o (.o .z))), v), ((.i (.o (.o .z))), .int .i64 l.length), ((.o (.i (.o .z))), .int .i64 i)]) (fun i => []) ?_ 0 (σ := []) (Wk.of rfl (by decide) (by simp only [go_sem, hren, List.length_nil, List.map_nil, List.length_cons, List.map_cons, List.replicate_succ, List.replicate_zero, List.set_cons_zero, List.set_cons_succ, List.take_succ_cons, List.take_zero, List.take_nil, List.length_append, List.map_append, List.cons_append, List.nil_append, List.drop_succ_cons, List.drop_zero, List.append_nil, List.getElem?_cons_zero, List.getElem?_cons_succ, Nat.reduceAdd, Nat.reduceSub, Nat.reduceMul, Nat.reduceDiv, Nat.reduceMod, Nat.reduceEqDiff, Nat.reduceLeDiff, Nat.reduceLT, Int.reduceLT, Int.reduceLE, Int.reduceEq, Int.reduceToNat, reduceIte, reduceCtorEq]) (by simp only [go_sem, List.length_nil, List.map_nil, List.length_cons, List.map_cons, List.replicate_succ, List.replicate_zero, List.set_cons_zero, List.set_cons_succ, List.take_succ_cons, List.take_zero, List.take_nil, List.length_append, List.map_append, List.cons_append, List.nil_append, List.drop_succ_cons, List.drop_zero, List.append_nil, List.getElem?_cons_zero, List.getElem?_cons_succ, Nat.reduceAdd, Nat.reduceSub, Nat.reduceMul, Nat.reduceDiv, Nat.reduceMod, Nat.reduceEqDiff, Nat.reduceLeDiff, Nat.reduceLT, Int.reduceLT, Int.reduceLE, Int.reduceEq, Int.reduceToNat, reduceIte, reduceCtorEq, eq_self, true_implies, not_true_eq_false, not_false_eq_true, false_implies, and_true, true_and, decide_true, decide_false, Bool.not_true, Bool.not_false])) ⟨Nat.zero_le _, fun j d h => absurd h (Nat.not_lt_zero _)⟩
  rintro i ⟨hi, hno⟩
  by_cases hlt : i < l.length
  · obtain ⟨kk, r, ex', cap', wr, rows, hv, hrho, hgo, hrow⟩ := hA.at hok (j := i) (by rw [List.length_map]; exact hlt); simp only [List.length_map, List.getElem_map] at hv hrow; cases hv; have hget : l[i]? = some l[i] := List.getElem?_eq_getElem hlt; generalize l[i] = c at hrow hget; have hw := wrap_succ (n := i) (by omega); have hci : (i : Int) < (l.length : Int) := (by omega); have hsi : i + 1 ≤ l.length := (by omega)
    simp only [go_sem, C42L0, Nat.reduceAdd, Nat.reduceSub, Nat.reduceMul, Nat.reduceDiv, Nat.reduceMod, Nat.reduceEqDiff, Nat.reduceLeDiff, Nat.reduceLT, Int.reduceLT, Int.reduceLE, Int.reduceEq, Int.reduceToNat, reduceIte, reduceCtorEq, List.length_nil, List.map_nil, List.length_cons, List.map_cons, List.replicate_succ, List.replicate_zero, List.set_cons_zero, List.set_cons_succ, List.take_succ_cons, List.take_zero, List.take_nil, List.length_append, List.map_append, List.cons_append, List.nil_append, List.drop_succ_cons, List.drop_zero, List.append_nil, List.getElem?_cons_zero, List.getElem?_cons_succ, eq_self, true_implies, not_true_eq_false, not_false_eq_true, false_implies, and_true, true_and, decide_true, decide_false, Bool.not_true, Bool.not_false, hci, hsi, hgo, hrow, hw, Sn.enc]
    refine ⟨fun g => ⟨?_, _, rfl⟩, fun g => ?_⟩
    · subst g
      rw [ofT, getS_first hget hno]
    · refine ⟨i + 1, by show l.length - (i + 1) < l.length - i; omega, ?_, _, [], rfl, Wk.of rfl (by decide) (by simp only [go_sem, hren, hrho, hw, List.length_nil, List.map_nil, List.length_cons, List.map_cons, List.replicate_succ, List.replicate_zero, List.set_cons_zero, List.set_cons_succ, List.take_succ_cons, List.take_zero, List.take_nil, List.length_append, List.map_append, List.cons_append, List.nil_append, List.drop_succ_cons, List.drop_zero, List.append_nil, List.getElem?_cons_zero, List.getElem?_cons_succ, Nat.reduceAdd, Nat.reduceSub, Nat.reduceMul, Nat.reduceDiv, Nat.reduceMod, Nat.reduceEqDiff, Nat.reduceLeDiff, Nat.reduceLT, Int.reduceLT, Int.reduceLE, Int.reduceEq, Int.reduceToNat, reduceIte, reduceCtorEq]) (by simp only [go_sem, List.length_nil, List.map_nil, List.length_cons, List.map_cons, List.replicate_succ, List.replicate_zero, List.set_cons_zero, List.set_cons_succ, List.take_succ_cons, List.take_zero, List.take_nil, List.length_append, List.map_append, List.cons_append, List.nil_append, List.drop_succ_cons, List.drop_zero, List.append_nil, List.getElem?_cons_zero, List.getElem?_cons_succ, Nat.reduceAdd, Nat.reduceSub, Nat.reduceMul, Nat.reduceDiv, Nat.reduceMod, Nat.reduceEqDiff, Nat.reduceLeDiff, Nat.reduceLT, Int.reduceLT, Int.reduceLE, Int.reduceEq, Int.reduceToNat, reduceIte, reduceCtorEq, eq_self, true_implies, not_true_eq_false, not_false_eq_true, false_implies, and_true, true_and, decide_true, decide_false, Bool.not_true, Bool.not_false])⟩
      refine ⟨by omega, fun j d hj hd => ?_⟩
      rcases Nat.lt_or_ge j i with h | h
      · exact hno j d h hd
      · obtain rfl : j = i := by omega
        rw [hget] at hd; cases hd; exact g
  · have hci : ¬ (i : Int) < (l.length : Int) := by omega
    simp only [go_sem, C42L0, Nat.reduceAdd, Nat.reduceSub, Nat.reduceMul, Nat.reduceDiv, Nat.reduceMod, Nat.reduceEqDiff, Nat.reduceLeDiff, Nat.reduceLT, Int.reduceLT, Int.reduceLE, Int.reduceEq, Int.reduceToNat, reduceIte, reduceCtorEq, List.length_nil, List.map_nil, List.length_cons, List.map_cons, List.replicate_succ, List.replicate_zero, List.set_cons_zero, List.set_cons_succ, List.take_succ_cons, List.take_zero, List.take_nil, List.length_append, List.map_append, List.cons_append, List.nil_append, List.drop_succ_cons, List.drop_zero, List.append_nil, List.getElem?_cons_zero, List.getElem?_cons_succ, eq_self, true_implies, not_true_eq_false, not_false_eq_true, false_implies, and_true, true_and, decide_true, decide_false, Bool.not_true, Bool.not_false, hci]
    refine ⟨?_, _, rfl⟩
    rw [ofT, getS_none fun c hc => ?_]
    obtain ⟨j, hj⟩ := List.mem_iff_getElem?.1 hc
    exact hno j c (by have := (List.getElem?_eq_some_iff.1 hj).1; omega) hj
noncomputable instance : DecidableEq Sn := fun _ _ => Classical.propDecidable _
theorem Sn.enc_inj {c d : Sn} (h : c.key = d.key ∧ c.ver = d.ver) : c = d := by cases c; cases d; simp_all
theorem f41_ok {v w : AV} {l m : List Sn} (hA : Arr H 2 v (l.map Sn.enc)) (hB : Arr H 2 w (m.map Sn.enc)) (hl : l.length < 9223372036854775807) :
    FnOk Try.prog 41 [v, w] H fun r G => r = .bool (decide (l = m)) ∧ G = H := by
  refine FnOk.assume fun hok => ?_
  refine FnOk.drop (R := fun r => r = .bool (decide (l = m))) ?_ (by rintro v rfl ρ; rw [AV.ren])
  refine FnOk.of_WW Try.func41 rfl C41ok R41ok E0 good_E0 ?_
  have hlen := fun G => hA.len G; simp only [List.length_map] at hlen; have hren := hA.ren
  have hlen2 := fun G => hB.len G
  simp only [List.length_map] at hlen2
  have hren2 := hB.ren
  simp only [go_sem, C41, Nat.reduceAdd, Nat.reduceSub, Nat.reduceMul, Nat.reduceDiv, Nat.reduceMod, Nat.reduceEqDiff, Nat.reduceLeDiff, Nat.reduceLT, Int.reduceLT, Int.reduceLE, Int.reduceEq, Int.reduceToNat, reduceIte, reduceCtorEq, hlen, hlen2]
  refine ⟨fun h => ⟨bool_f fun e : l = m => h (by rw [e]), _, rfl⟩, fun h => ?_⟩
  have hlm : l.length = m.length := by have := Classical.not_not.1 h; omega
  refine LL.st good_E0 (fun i : Nat => l.length - i) (fun i => i ≤ l.length ∧ ∀ j, j < i → l[j]? = m[j]?)
    (fun i => [(.z, v), ((.o .z), w), ((.o (.i .z)), .int .i64 i)]) (fun i => []) ?_ 0 (σ := []) (Wk.of rfl (by decide) (by simp only [go_sem, hren, hren2, List.length_nil, List.map_nil, List.length_cons, List.map_cons, List.replicate_succ, List.replicate_zero, List.set_cons_zero, List.set_cons_succ, List.take_succ_cons, List.take_zero, List.take_nil, List.length_append, List.map_append, List.cons_append, List.nil_append, List.drop_succ_cons, List.drop_zero, List.append_nil, List.getElem?_cons_zero, List.getElem?_cons_succ, Nat.reduceAdd, Nat.reduceSub, Nat.reduceMul, Nat.reduceDiv, Nat.reduceMod, Nat.reduceEqDiff, Nat.reduceLeDiff, Nat.reduceLT, Int.reduceLT, Int.reduceLE, Int.reduceEq, Int.reduceToNat, reduceIte, reduceCtorEq]) (by simp only [go_sem, List.length_nil, List.map_nil, List.length_cons, List.map_cons, List.replicate_succ, List.replicate_zero, List.set_cons_zero, List.set_cons_succ, List.take_succ_cons, List.take_zero, List.take_nil, List.length_append, List.map_append, List.cons_append, List.nil_append, List.drop_succ_cons, List.drop_zero, List.append_nil, List.getElem?_cons_zero, List.getElem?_cons_succ, Nat.reduceAdd, Nat.reduceSub, Nat.reduceMul, Nat.reduceDiv, Nat.reduceMod, Nat.reduceEqDiff, Nat.reduceLeDiff, Nat.reduceLT, Int.reduceLT, Int.reduceLE, Int.reduceEq, Int.reduceToNat, reduceIte, reduceCtorEq, eq_self, true_implies, not_true_eq_false, not_false_eq_true, false_implies, and_true, true_and, decide_true, decide_false, Bool.not_true, Bool.not_false])) ⟨Nat.zero_le _, fun j h => absurd h (Nat.not_lt_zero _)⟩
  rintro i ⟨hi, hno⟩
  by_cases hlt : i < l.length
  · obtain ⟨kk2, r2, ex2, cap2, wr2, rows2, hv2, hrho2, hgo2, hrow2⟩ := hB.at hok (j := i) (by rw [List.length_map]; omega)
    simp only [List.length_map, List.getElem_map] at hv2 hrow2
    have hget2 : m[i]? = some (m[i]'(by omega)) := List.getElem?_eq_getElem (by omega)
    generalize m[i]'(by omega) = d at hrow2 hget2
    obtain ⟨kk, r, ex', cap', wr, rows, hv, hrho, hgo, hrow⟩ := hA.at hok (j := i) (by rw [List.length_map]; exact hlt); simp only [List.length_map, List.getElem_map] at hv hrow; cases hv; have hget : l[i]? = some l[i] := List.getElem?_eq_getElem hlt; generalize l[i] = c at hrow hget; have hw := wrap_succ (n := i) (by omega); have hci : (i : Int) < (l.length : Int) := (by omega); have hsi : i + 1 ≤ l.length := (by omega)
    subst hv2
    have hsi2 : i + 1 ≤ m.length := by omega
    simp only [go_sem, C41L0, Nat.reduceAdd, Nat.reduceSub, Nat.reduceMul, Nat.reduceDiv, Nat.reduceMod, Nat.reduceEqDiff, Nat.reduceLeDiff, Nat.reduceLT, Int.reduceLT, Int.reduceLE, Int.reduceEq, Int.reduceToNat, reduceIte, reduceCtorEq, List.length_nil, List.map_nil, List.length_cons, List.map_cons, List.replicate_succ, List.replicate_zero, List.set_cons_zero, List.set_cons_succ, List.take_succ_cons, List.take_zero, List.take_nil, List.length_append, List.map_append, List.cons_append, List.nil_append, List.drop_succ_cons, List.drop_zero, List.append_nil, List.getElem?_cons_zero, List.getElem?_cons_succ, eq_self, true_implies, not_true_eq_false, not_false_eq_true, false_implies, and_true, true_and, decide_true, decide_false, Bool.not_true, Bool.not_false, hlen, hlen2, hci, hsi, hsi2, hgo, hgo2, hrow, hrow2, hw, Sn.enc]
    have hbad : ¬ c = d → AV.bool false = .bool (decide (l = m)) := fun h => bool_f fun e => h (by rw [e, hget2] at hget; exact (Option.some.inj hget).symm)
    refine ⟨fun g1 => ⟨fun g2 => ?_, fun g2 => ⟨hbad fun e => g2 (by rw [e]), _, rfl⟩⟩, fun g1 => ⟨hbad fun e => g1 (by rw [e]), _, rfl⟩⟩
    refine ⟨i + 1, by show l.length - (i + 1) < l.length - i; omega, ⟨by omega, fun j hj => ?_⟩, _, [], rfl, Wk.of rfl (by decide) (by simp only [go_sem, hrho, hrho2, List.length_nil, List.map_nil, List.length_cons, List.map_cons, List.replicate_succ, List.replicate_zero, List.set_cons_zero, List.set_cons_succ, List.take_succ_cons, List.take_zero, List.take_nil, List.length_append, List.map_append, List.cons_append, List.nil_append, List.drop_succ_cons, List.drop_zero, List.append_nil, List.getElem?_cons_zero, List.getElem?_cons_succ, Nat.reduceAdd, Nat.reduceSub, Nat.reduceMul, Nat.reduceDiv, Nat.reduceMod, Nat.reduceEqDiff, Nat.reduceLeDiff, Nat.reduceLT, Int.reduceLT, Int.reduceLE, Int.reduceEq, Int.reduceToNat, reduceIte, reduceCtorEq]) (by simp only [go_sem, List.length_nil, List.map_nil, List.length_cons, List.map_cons, List.replicate_succ, List.replicate_zero, List.set_cons_zero, List.set_cons_succ, List.take_succ_cons, List.take_zero, List.take_nil, List.length_append, List.map_append, List.cons_append, List.nil_append, List.drop_succ_cons, List.drop_zero, List.append_nil, List.getElem?_cons_zero, List.getElem?_cons_succ, Nat.reduceAdd, Nat.reduceSub, Nat.reduceMul, Nat.reduceDiv, Nat.reduceMod, Nat.reduceEqDiff, Nat.reduceLeDiff, Nat.reduceLT, Int.reduceLT, Int.reduceLE, Int.reduceEq, Int.reduceToNat, reduceIte, reduceCtorEq, eq_self, true_implies, not_true_eq_false, not_false_eq_true, false_implies, and_true, true_and, decide_true, decide_false, Bool.not_true, Bool.not_false])⟩
    rcases Nat.lt_or_ge j i with h | h
    · exact hno j h
    · obtain rfl : j = i := by omega
      rw [hget, hget2, Sn.enc_inj ⟨g1, g2⟩]
  · have hci : ¬ (i : Int) < (l.length : Int) := by omega
    simp only [go_sem, C41L0, Nat.reduceAdd, Nat.reduceSub, Nat.reduceMul, Nat.reduceDiv, Nat.reduceMod, Nat.reduceEqDiff, Nat.reduceLeDiff, Nat.reduceLT, Int.reduceLT, Int.reduceLE, Int.reduceEq, Int.reduceToNat, reduceIte, reduceCtorEq, List.length_nil, List.map_nil, List.length_cons, List.map_cons, List.replicate_succ, List.replicate_zero, List.set_cons_zero, List.set_cons_succ, List.take_succ_cons, List.take_zero, List.take_nil, List.length_append, List.map_append, List.cons_append, List.nil_append, List.drop_succ_cons, List.drop_zero, List.append_nil, List.getElem?_cons_zero, List.getElem?_cons_succ, eq_self, true_implies, not_true_eq_false, not_false_eq_true, false_implies, and_true, true_and, decide_true, decide_false, Bool.not_true, Bool.not_false, hci, hlen]
    refine ⟨bool_t (List.ext_getElem? fun j => ?_), _, rfl⟩
    rcases Nat.lt_or_ge j l.length with h | h
    · exact hno j (by omega)
    · rw [List.getElem?_eq_none h, List.getElem?_eq_none (by omega)]
def fewT (l : List Sn) : Prop := (∀ c ∈ l, (c.key.length : Int) ≤ 20) ∧ (l.length : Int) ≤ 30
instance (l : List Sn) : Decidable (fewT l) := inferInstanceAs (Decidable (_ ∧ _))
theorem f38_ok {v : AV} {l : List Sn} (hA : Arr H 2 v (l.map Sn.enc)) (hl : l.length ≤ 9223372036854775807) :
    FnOk Try.prog 38 [v] H fun r G => r = .bool (decide (fewT l)) ∧ G = H := by
  refine FnOk.assume fun hok => ?_
  refine FnOk.drop (R := fun r => r = .bool (decide (fewT l))) ?_ (by rintro v rfl ρ; rw [AV.ren])
  refine FnOk.of_WW Try.func38 rfl C38ok R38ok E0 good_E0 ?_
  have hlen := fun G => hA.len G; simp only [List.length_map] at hlen; have hren := hA.ren
  simp only [go_sem, C38, Nat.reduceAdd, Nat.reduceSub, Nat.reduceMul, Nat.reduceDiv, Nat.reduceMod, Nat.reduceEqDiff, Nat.reduceLeDiff, Nat.reduceLT, Int.reduceLT, Int.reduceLE, Int.reduceEq, Int.reduceToNat, reduceIte, reduceCtorEq, hlen]
  refine LL.st good_E0 (fun i : Nat => l.length - i) (fun i => i ≤ l.length ∧ ∀ j d, j < i → l[j]? = some d → (d.key.length : Int) ≤ 20)
    (fun i => [(.z, v), ((.o (.o .z)), .int .i64 i)]) (fun i => []) ?_ 0 (σ := []) (Wk.of rfl (by decide) (by simp only [go_sem, hren, List.length_nil, List.map_nil, List.length_cons, List.map_cons, List.replicate_succ, List.replicate_zero, List.set_cons_zero, List.set_cons_succ, List.take_succ_cons, List.take_zero, List.take_nil, List.length_append, List.map_append, List.cons_append, List.nil_append, List.drop_succ_cons, List.drop_zero, List.append_nil, List.getElem?_cons_zero, List.getElem?_cons_succ, Nat.reduceAdd, Nat.reduceSub, Nat.reduceMul, Nat.reduceDiv, Nat.reduceMod, Nat.reduceEqDiff, Nat.reduceLeDiff, Nat.reduceLT, Int.reduceLT, Int.reduceLE, Int.reduceEq, Int.reduceToNat, reduceIte, reduceCtorEq]) (by simp only [go_sem, List.length_nil, List.map_nil, List.length_cons, List.map_cons, List.replicate_succ, List.replicate_zero, List.set_cons_zero, List.set_cons_succ, List.take_succ_cons, List.take_zero, List.take_nil, List.length_append, List.map_append, List.cons_append, List.nil_append, List.drop_succ_cons, List.drop_zero, List.append_nil, List.getElem?_cons_zero, List.getElem?_cons_succ, Nat.reduceAdd, Nat.reduceSub, Nat.reduceMul, Nat.reduceDiv, Nat.reduceMod, Nat.reduceEqDiff, Nat.reduceLeDiff, Nat.reduceLT, Int.reduceLT, Int.reduceLE, Int.reduceEq, Int.reduceToNat, reduceIte, reduceCtorEq, eq_self, true_implies, not_true_eq_false, not_false_eq_true, false_implies, and_true, true_and, decide_true, decide_false, Bool.not_true, Bool.not_false])) ⟨Nat.zero_le _, fun j d h => absurd h (Nat.not_lt_zero _)⟩
  rintro i ⟨hi, hno⟩
  by_cases hlt : i < l.length
  · obtain ⟨kk, r, ex', cap', wr, rows, hv, hrho, hgo, hrow⟩ := hA.at hok (j := i) (by rw [List.length_map]; exact hlt); simp only [List.length_map, List.getElem_map] at hv hrow; cases hv; have hget : l[i]? = some l[i] := List.getElem?_eq_getElem hlt; generalize l[i] = c at hrow hget; have hw := wrap_succ (n := i) (by omega); have hci : (i : Int) < (l.length : Int) := (by omega); have hsi : i + 1 ≤ l.length := (by omega)
    simp only [go_sem, C38L0, Nat.reduceAdd, Nat.reduceSub, Nat.reduceMul, Nat.reduceDiv, Nat.reduceMod, Nat.reduceEqDiff, Nat.reduceLeDiff, Nat.reduceLT, Int.reduceLT, Int.reduceLE, Int.reduceEq, Int.reduceToNat, reduceIte, reduceCtorEq, List.length_nil, List.map_nil, List.length_cons, List.map_cons, List.replicate_succ, List.replicate_zero, List.set_cons_zero, List.set_cons_succ, List.take_succ_cons, List.take_zero, List.take_nil, List.length_append, List.map_append, List.cons_append, List.nil_append, List.drop_succ_cons, List.drop_zero, List.append_nil, List.getElem?_cons_zero, List.getElem?_cons_succ, eq_self, true_implies, not_true_eq_false, not_false_eq_true, false_implies, and_true, true_and, decide_true, decide_false, Bool.not_true, Bool.not_false, hci, hsi, hgo, hrow, hw, hlen, Sn.enc]
    refine ⟨fun g => ⟨bool_f fun e => ?_, _, rfl⟩, fun g => ?_⟩
    · have := e.1 c (List.mem_of_getElem? hget)
      omega
    · refine ⟨i + 1, by show l.length - (i + 1) < l.length - i; omega, ?_, _, [], rfl, Wk.of rfl (by decide) (by simp only [go_sem, hren, hrho, hw, List.length_nil, List.map_nil, List.length_cons, List.map_cons, List.replicate_succ, List.replicate_zero, List.set_cons_zero, List.set_cons_succ, List.take_succ_cons, List.take_zero, List.take_nil, List.length_append, List.map_append, List.cons_append, List.nil_append, List.drop_succ_cons, List.drop_zero, List.append_nil, List.getElem?_cons_zero, List.getElem?_cons_succ, Nat.reduceAdd, Nat.reduceSub, Nat.reduceMul, Nat.reduceDiv, Nat.reduceMod, Nat.reduceEqDiff, Nat.reduceLeDiff, Nat.reduceLT, Int.reduceLT, Int.reduceLE, Int.reduceEq, Int.reduceToNat, reduceIte, reduceCtorEq]) (by simp only [go_sem, List.length_nil, List.map_nil, List.length_cons, List.map_cons, List.replicate_succ, List.replicate_zero, List.set_cons_zero, List.set_cons_succ, List.take_succ_cons, List.take_zero, List.take_nil, List.length_append, List.map_append, List.cons_append, List.nil_append, List.drop_succ_cons, List.drop_zero, List.append_nil, List.getElem?_cons_zero, List.getElem?_cons_succ, Nat.reduceAdd, Nat.reduceSub, Nat.reduceMul, Nat.reduceDiv, Nat.reduceMod, Nat.reduceEqDiff, Nat.reduceLeDiff, Nat.reduceLT, Int.reduceLT, Int.reduceLE, Int.reduceEq, Int.reduceToNat, reduceIte, reduceCtorEq, eq_self, true_implies, not_true_eq_false, not_false_eq_true, false_implies, and_true, true_and, decide_true, decide_false, Bool.not_true, Bool.not_false])⟩
      refine ⟨by omega, fun j d hj hd => ?_⟩
      rcases Nat.lt_or_ge j i with h | h
      · exact hno j d h hd
      · obtain rfl : j = i := by omega
        rw [hget] at hd; cases hd; omega
  · have hci : ¬ (i : Int) < (l.length : Int) := by omega
    simp only [go_sem, C38L0, Nat.reduceAdd, Nat.reduceSub, Nat.reduceMul, Nat.reduceDiv, Nat.reduceMod, Nat.reduceEqDiff, Nat.reduceLeDiff, Nat.reduceLT, Int.reduceLT, Int.reduceLE, Int.reduceEq, Int.reduceToNat, reduceIte, reduceCtorEq, List.length_nil, List.map_nil, List.length_cons, List.map_cons, List.replicate_succ, List.replicate_zero, List.set_cons_zero, List.set_cons_succ, List.take_succ_cons, List.take_zero, List.take_nil, List.length_append, List.map_append, List.cons_append, List.nil_append, List.drop_succ_cons, List.drop_zero, List.append_nil, List.getElem?_cons_zero, List.getElem?_cons_succ, eq_self, true_implies, not_true_eq_false, not_false_eq_true, false_implies, and_true, true_and, decide_true, decide_false, Bool.not_true, Bool.not_false, hci, hlen]
    have hall : ∀ c ∈ l, (c.key.length : Int) ≤ 20 := fun c hc => by
      obtain ⟨j, hj⟩ := List.mem_iff_getElem?.1 hc
      exact hno j c (by have := (List.getElem?_eq_some_iff.1 hj).1; omega) hj
    refine ⟨fun h => ⟨bool_t ⟨hall, h⟩, _, rfl⟩, fun h => ⟨bool_f fun e => h e.2, _, rfl⟩⟩
end Go.Proofs
/- token: one more, those in a span, the best of two: walked. -/

set_option linter.all false
set_option maxRecDepth 100000
namespace Go.Proofs
open Go Go.Ev
variable {H : Heap}

theorem clo60 : CloFn Try.prog 60 2 24 [.str [], .int .i64 0] := ⟨⟨Try.f60, Try.func60, by kernel_rfl, by kernel_rfl⟩, rfl, by decide⟩
theorem ins62 : InsFn Try.prog 62 2 24 [.str [], .int .i64 0] := ⟨⟨Try.f62, 76, 77, Try.func62, by kernel_rfl, by kernel_rfl, by kernel_rfl, by kernel_rfl⟩, rfl, by decide⟩
noncomputable def putT (l : List Sn) (x : Sn) : List Sn := putG (fun _ x => x) l x
noncomputable def withT (l : List Sn) (x : Sn) : List Sn := if isTok l then putT l x else []
theorem hasAt_get {l : List Sn} {k : List Nat} {i : Nat} (h : hasAt l k i) : ∃ d, l[i]? = some d ∧ d.key = k ∧ i < l.length := by
  obtain ⟨d, h1, h2⟩ := h
  exact ⟨d, h1, h2, (List.getElem?_eq_some_iff.1 h1).1⟩
theorem f43_ok {v : AV} {l : List Sn} (hA : Arr H 2 v (l.map Sn.enc)) (hl : l.length < 4294967295) (x : Sn) :
    FnOk Try.prog 43 [v, .agg x.enc] H fun r G => r = outV H.nx 2 (withT l x).length ∧ G = H.ext [outB 2 ((withT l x).map Sn.enc)] := by
  refine FnOk.assume fun hok => ?_
  refine FnOk.dropO (List.length_map ..) (Sn.map_rens · _) ?_
  refine FnOk.of_WW Try.func43 rfl C43ok R43ok E0 good_E0 ?_
  have hlen := fun G => hA.len G; simp only [List.length_map] at hlen; have hren := hA.ren
  have hB : ∀ L, Arr (H.ext L) 2 v (l.map Sn.enc) := hA.ext
  simp only [go_sem, C43, Sn.enc, Nat.reduceAdd, Nat.reduceSub, Nat.reduceMul, Nat.reduceDiv, Nat.reduceMod, Nat.reduceEqDiff, Nat.reduceLeDiff, Nat.reduceLT, Int.reduceLT, Int.reduceLE, Int.reduceEq, Int.reduceToNat, reduceIte, reduceCtorEq, hlen]
  refine CL.bool (f39_ok (hB _) (by omega)) (fun ht => ?_) (fun ht => ?_)
  · simp only [go_sem, Nat.reduceAdd, Nat.reduceSub, Nat.reduceMul, Nat.reduceDiv, Nat.reduceMod, Nat.reduceEqDiff, Nat.reduceLeDiff, Nat.reduceLT, Int.reduceLT, Int.reduceLE, Int.reduceEq, Int.reduceToNat, reduceIte, reduceCtorEq, eq_self, true_implies, not_true_eq_false, not_false_eq_true, false_implies, and_true, true_and, decide_true, decide_false, Bool.not_true, Bool.not_false]
    refine CL.of (clone_z clo60 (hB _) (by rw [List.length_map]; omega) (Sn.map_rens · _)) ?_
    rintro _ _ ⟨z, rfl, rfl⟩
    simp only [go_sem, Nat.reduceAdd, Nat.reduceSub, Nat.reduceMul, Nat.reduceDiv, Nat.reduceMod, Nat.reduceEqDiff, Nat.reduceLeDiff, Nat.reduceLT, Int.reduceLT, Int.reduceLE, Int.reduceEq, Int.reduceToNat, reduceIte, reduceCtorEq, List.length_nil, List.map_nil, List.length_cons, List.map_cons, List.replicate_succ, List.replicate_zero, List.set_cons_zero, List.set_cons_succ, List.take_succ_cons, List.take_zero, List.take_nil, List.length_append, List.map_append, List.cons_append, List.nil_append, List.drop_succ_cons, List.drop_zero, List.append_nil, List.getElem?_cons_zero, List.getElem?_cons_succ, eq_self, true_implies, not_true_eq_false, not_false_eq_true, false_implies, and_true, true_and, decide_true, decide_false, Bool.not_true, Bool.not_false, List.length_map]
    have harr : Arr (H.ext [Blk.row true 2 [[AV.str x.key, AV.int IntKind.i64 x.ver]], zB z 2 (List.map Sn.enc l)]) 2 (zV z (H.key 1) 2 l.length) (l.map Sn.enc) := by
      have := zB_arr (H := H) (L := [Blk.row true 2 [[AV.str x.key, AV.int IntKind.i64 x.ver]], zB z 2 (List.map Sn.enc l)]) (i := 1) rfl
      rwa [List.length_map] at this
    refine CL.of (f61_ok harr (up_rises ht.up) (by omega) x.key) ?_
    rintro _ _ ⟨⟨i, hlow, rfl⟩, rfl⟩
    simp only [go_sem, Nat.reduceAdd, Nat.reduceSub, Nat.reduceMul, Nat.reduceDiv, Nat.reduceMod, Nat.reduceEqDiff, Nat.reduceLeDiff, Nat.reduceLT, Int.reduceLT, Int.reduceLE, Int.reduceEq, Int.reduceToNat, reduceIte, reduceCtorEq, List.length_nil, List.map_nil, List.length_cons, List.map_cons, List.replicate_succ, List.replicate_zero, List.set_cons_zero, List.set_cons_succ, List.take_succ_cons, List.take_zero, List.take_nil, List.length_append, List.map_append, List.cons_append, List.nil_append, List.drop_succ_cons, List.drop_zero, List.append_nil, List.getElem?_cons_zero, List.getElem?_cons_succ, eq_self, true_implies, not_true_eq_false, not_false_eq_true, false_implies, and_true, true_and, decide_true, decide_false, Bool.not_true, Bool.not_false]
    refine ⟨fun hat => ?_, fun hat => ?_⟩
    · obtain ⟨d, hd, hk, hil⟩ := hasAt_get hat
      have hput : withT l x = l.set i x := by rw [withT, if_pos ht, putT, putG_has hlow hd hk]
      have hpos : 0 < l.length := by omega
      have hzB := zB_pos (z := z) (esz := 2) (xs := l.map Sn.enc) (by rw [List.length_map]; exact hpos)
      have hsi : i + 1 ≤ l.length := by omega
      simp only [go_sem, Nat.reduceAdd, Nat.reduceSub, Nat.reduceMul, Nat.reduceDiv, Nat.reduceMod, Nat.reduceEqDiff, Nat.reduceLeDiff, Nat.reduceLT, Int.reduceLT, Int.reduceLE, Int.reduceEq, Int.reduceToNat, reduceIte, reduceCtorEq, List.length_nil, List.map_nil, List.length_cons, List.map_cons, List.replicate_succ, List.replicate_zero, List.set_cons_zero, List.set_cons_succ, List.take_succ_cons, List.take_zero, List.take_nil, List.length_append, List.map_append, List.cons_append, List.nil_append, List.drop_succ_cons, List.drop_zero, List.append_nil, List.getElem?_cons_zero, List.getElem?_cons_succ, eq_self, true_implies, not_true_eq_false, not_false_eq_true, false_implies, and_true, true_and, decide_true, decide_false, Bool.not_true, Bool.not_false, zV_pos hpos, hzB, hsi, hd, List.getElem?_map, Option.map_some]
      rw [hput]
      exact ⟨_, 1, by rw [List.length_set, outV_pos hpos], rfl, fun _ => by rw [outB_pos (by rw [List.length_map, List.length_set]; exact hpos), List.map_set]; rfl⟩
    · have hput : withT l x = l.take i ++ x :: l.drop i := by rw [withT, if_pos ht, putT, putG_not hlow hat]
      refine CL.of (insert_z ins62 (i := 1) (j := 2) (xs := l.map Sn.enc) (x := [.str x.key, .int .i64 x.ver]) (by decide) rfl rfl (List.length_map ..) hlow.1 (by omega) (by omega)) ?_
      rintro _ _ ⟨b, rfl, rfl⟩
      simp only [go_sem, Nat.reduceAdd, Nat.reduceSub, Nat.reduceMul, Nat.reduceDiv, Nat.reduceMod, Nat.reduceEqDiff, Nat.reduceLeDiff, Nat.reduceLT, Int.reduceLT, Int.reduceLE, Int.reduceEq, Int.reduceToNat, reduceIte, reduceCtorEq, List.length_nil, List.map_nil, List.length_cons, List.map_cons, List.replicate_succ, List.replicate_zero, List.set_cons_zero, List.set_cons_succ, List.take_succ_cons, List.take_zero, List.take_nil, List.length_append, List.map_append, List.cons_append, List.nil_append, List.drop_succ_cons, List.drop_zero, List.append_nil, List.getElem?_cons_zero, List.getElem?_cons_succ]
      rw [hput]
      have hle := hlow.1
      refine ⟨_, 3, ?_, rfl, fun _ => ?_⟩
      · simp only [List.length_map, List.map_append, List.map_cons, List.map_take, List.map_drop, List.map_set, List.length_append, List.length_cons, List.length_take, List.length_drop]
        rw [show min i l.length + (l.length - i + 1) = l.length + 1 by omega]; rfl
      · simp only [List.length_map, List.map_append, List.map_cons, List.map_take, List.map_drop, List.map_set]; rfl
  · simp only [go_sem, Nat.reduceAdd, Nat.reduceSub, Nat.reduceMul, Nat.reduceDiv, Nat.reduceMod, Nat.reduceEqDiff, Nat.reduceLeDiff, Nat.reduceLT, Int.reduceLT, Int.reduceLE, Int.reduceEq, Int.reduceToNat, reduceIte, reduceCtorEq, List.length_nil, List.map_nil, List.length_cons, List.map_cons, List.replicate_succ, List.replicate_zero, List.set_cons_zero, List.set_cons_succ, List.take_succ_cons, List.take_zero, List.take_nil, List.length_append, List.map_append, List.cons_append, List.nil_append, List.drop_succ_cons, List.drop_zero, List.append_nil, List.getElem?_cons_zero, List.getElem?_cons_succ, eq_self, true_implies, not_true_eq_false, not_false_eq_true, false_implies, and_true, true_and, decide_true, decide_false, Bool.not_true, Bool.not_false]
    have hput : withT l x = [] := by rw [withT, if_neg ht]
    rw [hput]
    exact ⟨_, 0, rfl, rfl, fun h => h.elim⟩
noncomputable def inT (f t : List Nat) (l : List Sn) : List Sn := l.filter fun c => decide (has f t c.key)
theorem inT_succ {f t : List Nat} {l : List Sn} {i : Nat} {c : Sn} (h : l[i]? = some c) : inT f t (l.take (i + 1)) = inT f t (l.take i) ++ if has f t c.key then [c] else [] := by
  unfold inT
  obtain ⟨hl, rfl⟩ := List.getElem?_eq_some_iff.1 h
  rw [List.take_succ_eq_append_getElem hl, List.filter_append]
  congr 1
  by_cases g : has f t l[i].key
  · rw [if_pos g, List.filter_cons_of_pos (by exact decide_eq_true g)]; rfl
  · rw [if_neg g, List.filter_cons_of_neg (by simpa using g)]; rfl
theorem inT_len (f t : List Nat) (l : List Sn) (i : Nat) : (inT f t (l.take i)).length ≤ i := Nat.le_trans (List.length_filter_le _ _) (by rw [List.length_take]; omega)
theorem f44_ok {v : AV} {l : List Sn} (hA : Arr H 2 v (l.map Sn.enc)) (hl : l.length < 100000000) (f t : List Nat) :
    FnOk Try.prog 44 [v, .agg [.str f, .str t]] H fun r G => r = outV H.nx 2 (inT f t l).length ∧ G = H.ext [outB 2 ((inT f t l).map Sn.enc)] := by
  refine FnOk.assume fun hok => ?_
  refine FnOk.dropO (List.length_map ..) (Sn.map_rens · _) ?_
  refine FnOk.of_WW Try.func44 rfl C44ok R44ok E0 good_E0 ?_
  have hlen := fun G => hA.len G; simp only [List.length_map] at hlen; have hren := hA.ren
  simp only [go_sem, C44, Nat.reduceAdd, Nat.reduceSub, Nat.reduceMul, Nat.reduceDiv, Nat.reduceMod, Nat.reduceEqDiff, Nat.reduceLeDiff, Nat.reduceLT, Int.reduceLT, Int.reduceLE, Int.reduceEq, Int.reduceToNat, reduceIte, reduceCtorEq, hlen]
  refine LL.st good_E0 (fun i : Nat => l.length - i) (fun i => i ≤ l.length)
    (fun i => [((.o (.o .z)), .ptr (H.key 0) 0), ((.o (.i .z)), outV (H.key 1) 2 (inT f t (l.take i)).length), ((.i (.o (.o .z))), v), ((.o (.i (.o .z))), .int .i64 l.length), ((.i (.i (.o .z))), .int .i64 i)])
    (fun i => [.row true 2 [[.str f, .str t]], outB 2 ((inT f t (l.take i)).map Sn.enc)]) ?_ 0 (σ := [0, 1]) (Wk.of rfl (by decide) (by simp only [go_sem, hren, outV_ren', List.take_zero, inT, List.filter_nil, List.length_nil, List.map_nil, List.length_cons, List.map_cons, List.replicate_succ, List.replicate_zero, List.set_cons_zero, List.set_cons_succ, List.take_succ_cons, List.take_zero, List.take_nil, List.length_append, List.map_append, List.cons_append, List.nil_append, List.drop_succ_cons, List.drop_zero, List.append_nil, List.getElem?_cons_zero, List.getElem?_cons_succ, Nat.reduceAdd, Nat.reduceSub, Nat.reduceMul, Nat.reduceDiv, Nat.reduceMod, Nat.reduceEqDiff, Nat.reduceLeDiff, Nat.reduceLT, Int.reduceLT, Int.reduceLE, Int.reduceEq, Int.reduceToNat, reduceIte, reduceCtorEq]) (by simp only [go_sem, List.take_zero, inT, List.filter_nil, ↓outB_ren', ↓zB_ren, Sn.map_rens, Sn.rens, implies_true, List.length_nil, List.map_nil, List.length_cons, List.map_cons, List.replicate_succ, List.replicate_zero, List.set_cons_zero, List.set_cons_succ, List.take_succ_cons, List.take_zero, List.take_nil, List.length_append, List.map_append, List.cons_append, List.nil_append, List.drop_succ_cons, List.drop_zero, List.append_nil, List.getElem?_cons_zero, List.getElem?_cons_succ, Nat.reduceAdd, Nat.reduceSub, Nat.reduceMul, Nat.reduceDiv, Nat.reduceMod, Nat.reduceEqDiff, Nat.reduceLeDiff, Nat.reduceLT, Int.reduceLT, Int.reduceLE, Int.reduceEq, Int.reduceToNat, reduceIte, reduceCtorEq, eq_self, true_implies, not_true_eq_false, not_false_eq_true, false_implies, and_true, true_and, decide_true, decide_false, Bool.not_true, Bool.not_false])) (Nat.zero_le _)
  rintro i hi
  have hil := inT_len f t l i
  by_cases hlt : i < l.length
  · obtain ⟨kk, r, ex', cap', wr, rows, hv, hrho, hgo, hrow⟩ := hA.at hok (j := i) (by rw [List.length_map]; exact hlt); simp only [List.length_map, List.getElem_map] at hv hrow; cases hv; have hget : l[i]? = some l[i] := List.getElem?_eq_getElem hlt; generalize l[i] = c at hrow hget; have hw := wrap_succ (n := i) (by omega); have hci : (i : Int) < (l.length : Int) := (by omega); have hsi : i + 1 ≤ l.length := (by omega)
    simp only [go_sem, ↓appR_hide, C44L0, Nat.reduceAdd, Nat.reduceSub, Nat.reduceMul, Nat.reduceDiv, Nat.reduceMod, Nat.reduceEqDiff, Nat.reduceLeDiff, Nat.reduceLT, Int.reduceLT, Int.reduceLE, Int.reduceEq, Int.reduceToNat, reduceIte, reduceCtorEq, List.length_nil, List.map_nil, List.length_cons, List.map_cons, List.replicate_succ, List.replicate_zero, List.set_cons_zero, List.set_cons_succ, List.take_succ_cons, List.take_zero, List.take_nil, List.length_append, List.map_append, List.cons_append, List.nil_append, List.drop_succ_cons, List.drop_zero, List.append_nil, List.getElem?_cons_zero, List.getElem?_cons_succ, eq_self, true_implies, not_true_eq_false, not_false_eq_true, false_implies, and_true, true_and, decide_true, decide_false, Bool.not_true, Bool.not_false, hci, hsi, hgo, hrow, hw, Sn.enc]
    refine CL.bool (f49_ok f t c.key) (fun g => ?_) (fun g => ?_)
    · have hnew := inT_succ (f := f) (t := t) hget
      rw [if_pos g] at hnew
      simp only [go_sem, ↓appR_hide, Nat.reduceAdd, Nat.reduceSub, Nat.reduceMul, Nat.reduceDiv, Nat.reduceMod, Nat.reduceEqDiff, Nat.reduceLeDiff, Nat.reduceLT, Int.reduceLT, Int.reduceLE, Int.reduceEq, Int.reduceToNat, reduceIte, reduceCtorEq, List.length_nil, List.map_nil, List.length_cons, List.map_cons, List.replicate_succ, List.replicate_zero, List.set_cons_zero, List.set_cons_succ, List.take_succ_cons, List.take_zero, List.take_nil, List.length_append, List.map_append, List.cons_append, List.nil_append, List.drop_succ_cons, List.drop_zero, List.append_nil, List.getElem?_cons_zero, List.getElem?_cons_succ, eq_self, true_implies, not_true_eq_false, not_false_eq_true, false_implies, and_true, true_and, decide_true, decide_false, Bool.not_true, Bool.not_false, hw]
      refine RW_app _ [.str c.key, .int .i64 c.ver] rfl (List.length_map ..) rfl (okBig_le (by omega) (by decide)) ?_
      simp only [go_sem, Nat.reduceAdd, Nat.reduceSub, Nat.reduceMul, Nat.reduceDiv, Nat.reduceMod, Nat.reduceEqDiff, Nat.reduceLeDiff, Nat.reduceLT, Int.reduceLT, Int.reduceLE, Int.reduceEq, Int.reduceToNat, reduceIte, reduceCtorEq, List.length_nil, List.map_nil, List.length_cons, List.map_cons, List.replicate_succ, List.replicate_zero, List.set_cons_zero, List.set_cons_succ, List.take_succ_cons, List.take_zero, List.take_nil, List.length_append, List.map_append, List.cons_append, List.nil_append, List.drop_succ_cons, List.drop_zero, List.append_nil, List.getElem?_cons_zero, List.getElem?_cons_succ, hw]
      refine ⟨i + 1, by show l.length - (i + 1) < l.length - i; omega, ?_, _, [0, 4], rfl, Wk.of rfl (by decide) (by simp only [go_sem, outV_ren', hrho, hnew, List.length_map, List.length_nil, List.map_nil, List.length_cons, List.map_cons, List.replicate_succ, List.replicate_zero, List.set_cons_zero, List.set_cons_succ, List.take_succ_cons, List.take_zero, List.take_nil, List.length_append, List.map_append, List.cons_append, List.nil_append, List.drop_succ_cons, List.drop_zero, List.append_nil, List.getElem?_cons_zero, List.getElem?_cons_succ, Nat.reduceAdd, Nat.reduceSub, Nat.reduceMul, Nat.reduceDiv, Nat.reduceMod, Nat.reduceEqDiff, Nat.reduceLeDiff, Nat.reduceLT, Int.reduceLT, Int.reduceLE, Int.reduceEq, Int.reduceToNat, reduceIte, reduceCtorEq]) (by simp only [go_sem, ↓outB_ren', ↓zB_ren, Sn.map_rens, Sn.rens, implies_true, hnew, Sn.enc, List.length_map, List.map_append, List.map_cons, List.map_take, List.map_drop, List.map_set, List.map_nil, AV.rens, List.length_nil, List.map_nil, List.length_cons, List.map_cons, List.replicate_succ, List.replicate_zero, List.set_cons_zero, List.set_cons_succ, List.take_succ_cons, List.take_zero, List.take_nil, List.length_append, List.map_append, List.cons_append, List.nil_append, List.drop_succ_cons, List.drop_zero, List.append_nil, List.getElem?_cons_zero, List.getElem?_cons_succ, Nat.reduceAdd, Nat.reduceSub, Nat.reduceMul, Nat.reduceDiv, Nat.reduceMod, Nat.reduceEqDiff, Nat.reduceLeDiff, Nat.reduceLT, Int.reduceLT, Int.reduceLE, Int.reduceEq, Int.reduceToNat, reduceIte, reduceCtorEq, eq_self, true_implies, not_true_eq_false, not_false_eq_true, false_implies, and_true, true_and, decide_true, decide_false, Bool.not_true, Bool.not_false])⟩
      show i + 1 ≤ l.length
      omega
    · have hnew := inT_succ (f := f) (t := t) hget
      rw [if_neg g, List.append_nil] at hnew
      simp only [go_sem, ↓appR_hide, Nat.reduceAdd, Nat.reduceSub, Nat.reduceMul, Nat.reduceDiv, Nat.reduceMod, Nat.reduceEqDiff, Nat.reduceLeDiff, Nat.reduceLT, Int.reduceLT, Int.reduceLE, Int.reduceEq, Int.reduceToNat, reduceIte, reduceCtorEq, List.length_nil, List.map_nil, List.length_cons, List.map_cons, List.replicate_succ, List.replicate_zero, List.set_cons_zero, List.set_cons_succ, List.take_succ_cons, List.take_zero, List.take_nil, List.length_append, List.map_append, List.cons_append, List.nil_append, List.drop_succ_cons, List.drop_zero, List.append_nil, List.getElem?_cons_zero, List.getElem?_cons_succ, eq_self, true_implies, not_true_eq_false, not_false_eq_true, false_implies, and_true, true_and, decide_true, decide_false, Bool.not_true, Bool.not_false, hw]
      refine ⟨i + 1, by show l.length - (i + 1) < l.length - i; omega, ?_, _, [0, 1], rfl, Wk.of rfl (by decide) (by simp only [go_sem, outV_ren', hrho, hnew, List.length_map, List.length_nil, List.map_nil, List.length_cons, List.map_cons, List.replicate_succ, List.replicate_zero, List.set_cons_zero, List.set_cons_succ, List.take_succ_cons, List.take_zero, List.take_nil, List.length_append, List.map_append, List.cons_append, List.nil_append, List.drop_succ_cons, List.drop_zero, List.append_nil, List.getElem?_cons_zero, List.getElem?_cons_succ, Nat.reduceAdd, Nat.reduceSub, Nat.reduceMul, Nat.reduceDiv, Nat.reduceMod, Nat.reduceEqDiff, Nat.reduceLeDiff, Nat.reduceLT, Int.reduceLT, Int.reduceLE, Int.reduceEq, Int.reduceToNat, reduceIte, reduceCtorEq]) (by simp only [go_sem, ↓outB_ren', ↓zB_ren, Sn.map_rens, Sn.rens, implies_true, hnew, Sn.enc, List.length_map, List.map_append, List.map_cons, List.map_take, List.map_drop, List.map_set, List.map_nil, List.length_nil, List.map_nil, List.length_cons, List.map_cons, List.replicate_succ, List.replicate_zero, List.set_cons_zero, List.set_cons_succ, List.take_succ_cons, List.take_zero, List.take_nil, List.length_append, List.map_append, List.cons_append, List.nil_append, List.drop_succ_cons, List.drop_zero, List.append_nil, List.getElem?_cons_zero, List.getElem?_cons_succ, Nat.reduceAdd, Nat.reduceSub, Nat.reduceMul, Nat.reduceDiv, Nat.reduceMod, Nat.reduceEqDiff, Nat.reduceLeDiff, Nat.reduceLT, Int.reduceLT, Int.reduceLE, Int.reduceEq, Int.reduceToNat, reduceIte, reduceCtorEq, eq_self, true_implies, not_true_eq_false, not_false_eq_true, false_implies, and_true, true_and, decide_true, decide_false, Bool.not_true, Bool.not_false])⟩
      show i + 1 ≤ l.length
      omega
  · have hci : ¬ (i : Int) < (l.length : Int) := by omega
    simp only [go_sem, C44L0, Nat.reduceAdd, Nat.reduceSub, Nat.reduceMul, Nat.reduceDiv, Nat.reduceMod, Nat.reduceEqDiff, Nat.reduceLeDiff, Nat.reduceLT, Int.reduceLT, Int.reduceLE, Int.reduceEq, Int.reduceToNat, reduceIte, reduceCtorEq, List.length_nil, List.map_nil, List.length_cons, List.map_cons, List.replicate_succ, List.replicate_zero, List.set_cons_zero, List.set_cons_succ, List.take_succ_cons, List.take_zero, List.take_nil, List.length_append, List.map_append, List.cons_append, List.nil_append, List.drop_succ_cons, List.drop_zero, List.append_nil, List.getElem?_cons_zero, List.getElem?_cons_succ, eq_self, true_implies, not_true_eq_false, not_false_eq_true, false_implies, and_true, true_and, decide_true, decide_false, Bool.not_true, Bool.not_false, hci]
    rw [List.take_of_length_le (by omega)]
    exact ⟨_, 1, rfl, rfl, fun _ => rfl⟩
end Go.Proofs
/- token: the best of two, walked. -/

set_option linter.all false
set_option maxRecDepth 100000
namespace Go.Proofs
open Go Go.Ev
variable {H : Heap}

noncomputable def maxF (d x : Sn) : Sn := ⟨d.key, max d.ver x.ver⟩
noncomputable def bestP (a b : List Sn) : List Sn := b.foldl (putG maxF) a
noncomputable def bestT (a b : List Sn) : List Sn := if isTok a ∧ isTok b then bestP a b else []
theorem maxF_key (d x : Sn) (h : d.key = x.key) : (maxF d x).key = x.key := h
theorem bestP_up : ∀ {b a : List Sn}, up a → up (bestP a b)
  | [], _, h => h
  | x :: b, a, h => bestP_up (b := b) (putG_up maxF_key h)
theorem bestP_len : ∀ {b a : List Sn}, (bestP a b).length ≤ a.length + b.length
  | [], a => by simp [bestP]
  | x :: b, a => by
    have h1 := bestP_len (b := b) (a := putG maxF a x)
    have h2 := putG_len (f := maxF) (x := x) (l := a)
    have h3 : bestP a (x :: b) = bestP (putG maxF a x) b := rfl
    rw [h3, List.length_cons]
    omega
theorem bestP_succ {a l : List Sn} {i : Nat} {c : Sn} (h : l[i]? = some c) : bestP a (l.take (i + 1)) = putG maxF (bestP a (l.take i)) c := by
  obtain ⟨hl, rfl⟩ := List.getElem?_eq_some_iff.1 h
  unfold bestP
  rw [List.take_succ_eq_append_getElem hl, List.foldl_append]; rfl
theorem f40_ok {u v : AV} {a l : List Sn} (hB : Arr H 2 u (a.map Sn.enc)) (hA : Arr H 2 v (l.map Sn.enc)) (ha : a.length < 2147483648) (hl : l.length < 2147483648) :
    FnOk Try.prog 40 [u, v] H fun r G => ∃ z, r = zV z H.nx 2 (bestT a l).length ∧ G = H.ext [zB z 2 ((bestT a l).map Sn.enc)] := by
  refine FnOk.assume fun hok => ?_
  refine FnOk.dropZn (List.length_map ..) (Sn.map_rens · _) ?_
  refine FnOk.of_WW Try.func40 rfl C40ok R40ok E0 good_E0 ?_
  have hlen := fun G => hA.len G; simp only [List.length_map] at hlen; have hren := hA.ren
  simp only [go_sem, C40, Nat.reduceAdd, Nat.reduceSub, Nat.reduceMul, Nat.reduceDiv, Nat.reduceMod, Nat.reduceEqDiff, Nat.reduceLeDiff, Nat.reduceLT, Int.reduceLT, Int.reduceLE, Int.reduceEq, Int.reduceToNat, reduceIte, reduceCtorEq, hlen]
  have hbad : ¬ (isTok a ∧ isTok l) → ∀ G : List Blk, ∃ z L i, AV.nils = zV z (H.key i) 2 (bestT a l).length ∧ H.ext G = H.ext L ∧ ((zB z 2 ((bestT a l).map Sn.enc)).live → L[i]? = some (zB z 2 ((bestT a l).map Sn.enc))) := fun h G => by
    rw [bestT, if_neg h]
    exact ⟨true, _, 0, rfl, rfl, fun h => h.elim⟩
  refine CL.bool (f39_ok (hB.ext []) (by omega)) (fun h1 => ?_) (fun h1 => ?_)
  · simp only [go_sem, Nat.reduceAdd, Nat.reduceSub, Nat.reduceMul, Nat.reduceDiv, Nat.reduceMod, Nat.reduceEqDiff, Nat.reduceLeDiff, Nat.reduceLT, Int.reduceLT, Int.reduceLE, Int.reduceEq, Int.reduceToNat, reduceIte, reduceCtorEq, eq_self, true_implies, not_true_eq_false, not_false_eq_true, false_implies, and_true, true_and, decide_true, decide_false, Bool.not_true, Bool.not_false]
    refine CL.bool (f39_ok (hA.ext []) (by omega)) (fun h2 => ?_) (fun h2 => ?_)
    · simp only [go_sem, Nat.reduceAdd, Nat.reduceSub, Nat.reduceMul, Nat.reduceDiv, Nat.reduceMod, Nat.reduceEqDiff, Nat.reduceLeDiff, Nat.reduceLT, Int.reduceLT, Int.reduceLE, Int.reduceEq, Int.reduceToNat, reduceIte, reduceCtorEq, eq_self, true_implies, not_true_eq_false, not_false_eq_true, false_implies, and_true, true_and, decide_true, decide_false, Bool.not_true, Bool.not_false]
      refine CL.of (clone_z clo60 (hB.ext []) (by rw [List.length_map]; omega) (Sn.map_rens · _)) ?_
      rintro _ _ ⟨z, rfl, rfl⟩
      simp only [go_sem, Nat.reduceAdd, Nat.reduceSub, Nat.reduceMul, Nat.reduceDiv, Nat.reduceMod, Nat.reduceEqDiff, Nat.reduceLeDiff, Nat.reduceLT, Int.reduceLT, Int.reduceLE, Int.reduceEq, Int.reduceToNat, reduceIte, reduceCtorEq, List.length_nil, List.map_nil, List.length_cons, List.map_cons, List.replicate_succ, List.replicate_zero, List.set_cons_zero, List.set_cons_succ, List.take_succ_cons, List.take_zero, List.take_nil, List.length_append, List.map_append, List.cons_append, List.nil_append, List.drop_succ_cons, List.drop_zero, List.append_nil, List.getElem?_cons_zero, List.getElem?_cons_succ, eq_self, true_implies, not_true_eq_false, not_false_eq_true, false_implies, and_true, true_and, decide_true, decide_false, Bool.not_true, Bool.not_false, List.length_map, hlen]
      refine LL.st good_E0 (fun i : Nat => l.length - i) (fun i => i ≤ l.length)
        (fun i => [((.o (.i .z)), zV z (H.key 0) 2 (bestP a (l.take i)).length), ((.i (.o (.i (.o .z)))), v), ((.o (.i (.i (.o .z)))), .int .i64 l.length), ((.i (.i (.i (.o .z)))), .int .i64 i)])
        (fun i => [zB z 2 ((bestP a (l.take i)).map Sn.enc)]) ?_ 0 (σ := [0]) (Wk.of rfl (by decide) (by simp only [go_sem, hren, zV_ren, List.take_zero, bestP, List.foldl_nil, List.length_nil, List.map_nil, List.length_cons, List.map_cons, List.replicate_succ, List.replicate_zero, List.set_cons_zero, List.set_cons_succ, List.take_succ_cons, List.take_zero, List.take_nil, List.length_append, List.map_append, List.cons_append, List.nil_append, List.drop_succ_cons, List.drop_zero, List.append_nil, List.getElem?_cons_zero, List.getElem?_cons_succ, Nat.reduceAdd, Nat.reduceSub, Nat.reduceMul, Nat.reduceDiv, Nat.reduceMod, Nat.reduceEqDiff, Nat.reduceLeDiff, Nat.reduceLT, Int.reduceLT, Int.reduceLE, Int.reduceEq, Int.reduceToNat, reduceIte, reduceCtorEq]) (by simp only [go_sem, List.take_zero, bestP, List.foldl_nil, ↓outB_ren', ↓zB_ren, Sn.map_rens, Sn.rens, implies_true, List.length_nil, List.map_nil, List.length_cons, List.map_cons, List.replicate_succ, List.replicate_zero, List.set_cons_zero, List.set_cons_succ, List.take_succ_cons, List.take_zero, List.take_nil, List.length_append, List.map_append, List.cons_append, List.nil_append, List.drop_succ_cons, List.drop_zero, List.append_nil, List.getElem?_cons_zero, List.getElem?_cons_succ, Nat.reduceAdd, Nat.reduceSub, Nat.reduceMul, Nat.reduceDiv, Nat.reduceMod, Nat.reduceEqDiff, Nat.reduceLeDiff, Nat.reduceLT, Int.reduceLT, Int.reduceLE, Int.reduceEq, Int.reduceToNat, reduceIte, reduceCtorEq, eq_self, true_implies, not_true_eq_false, not_false_eq_true, false_implies, and_true, true_and, decide_true, decide_false, Bool.not_true, Bool.not_false])) (Nat.zero_le _)
      rintro i hi
      by_cases hlt : i < l.length
      · obtain ⟨kk, r, ex', cap', wr, rows, hv, hrho, hgo, hrow⟩ := hA.at hok (j := i) (by rw [List.length_map]; exact hlt); simp only [List.length_map, List.getElem_map] at hv hrow; cases hv; have hget : l[i]? = some l[i] := List.getElem?_eq_getElem hlt; generalize l[i] = c at hrow hget; have hw := wrap_succ (n := i) (by omega); have hci : (i : Int) < (l.length : Int) := (by omega); have hsi : i + 1 ≤ l.length := (by omega)
        have hup : up (bestP a (l.take i)) := bestP_up h1.up
        have hnew := bestP_succ (a := a) hget
        have hln := bestP_len (a := a) (b := l.take i)
        rw [List.length_take] at hln
        generalize bestP a (l.take i) = acc at hup hnew hln ⊢
        have harr : ∀ (L : List Blk), L[0]? = some (zB z 2 (acc.map Sn.enc)) → Arr (H.ext L) 2 (zV z (H.key 0) 2 acc.length) (acc.map Sn.enc) := fun L h => by
          have := zB_arr (H := H) h
          rwa [List.length_map] at this
        simp only [go_sem, C40L0, Nat.reduceAdd, Nat.reduceSub, Nat.reduceMul, Nat.reduceDiv, Nat.reduceMod, Nat.reduceEqDiff, Nat.reduceLeDiff, Nat.reduceLT, Int.reduceLT, Int.reduceLE, Int.reduceEq, Int.reduceToNat, reduceIte, reduceCtorEq, List.length_nil, List.map_nil, List.length_cons, List.map_cons, List.replicate_succ, List.replicate_zero, List.set_cons_zero, List.set_cons_succ, List.take_succ_cons, List.take_zero, List.take_nil, List.length_append, List.map_append, List.cons_append, List.nil_append, List.drop_succ_cons, List.drop_zero, List.append_nil, List.getElem?_cons_zero, List.getElem?_cons_succ, eq_self, true_implies, not_true_eq_false, not_false_eq_true, false_implies, and_true, true_and, decide_true, decide_false, Bool.not_true, Bool.not_false, hci, hsi, hgo, hrow, hw, Sn.enc]
        refine CL.of (f61_ok (harr _ rfl) (up_rises hup) (by omega) c.key) ?_
        rintro _ _ ⟨⟨m, hlow, rfl⟩, rfl⟩
        simp only [go_sem, Nat.reduceAdd, Nat.reduceSub, Nat.reduceMul, Nat.reduceDiv, Nat.reduceMod, Nat.reduceEqDiff, Nat.reduceLeDiff, Nat.reduceLT, Int.reduceLT, Int.reduceLE, Int.reduceEq, Int.reduceToNat, reduceIte, reduceCtorEq, List.length_nil, List.map_nil, List.length_cons, List.map_cons, List.replicate_succ, List.replicate_zero, List.set_cons_zero, List.set_cons_succ, List.take_succ_cons, List.take_zero, List.take_nil, List.length_append, List.map_append, List.cons_append, List.nil_append, List.drop_succ_cons, List.drop_zero, List.append_nil, List.getElem?_cons_zero, List.getElem?_cons_succ, eq_self, true_implies, not_true_eq_false, not_false_eq_true, false_implies, and_true, true_and, decide_true, decide_false, Bool.not_true, Bool.not_false]
        refine ⟨fun hat => ?_, fun hat => ?_⟩
        · obtain ⟨d, hd, hk, hil⟩ := hasAt_get hat
          rw [putG_has hlow hd hk] at hnew
          have hpos : 0 < acc.length := by omega
          have hpos2 : 0 < (acc.set m (maxF d c)).length := by rw [List.length_set]; exact hpos
          have hzB := zB_pos (z := z) (esz := 2) (xs := acc.map Sn.enc) (by rw [List.length_map]; exact hpos)
          have hsm : m + 1 ≤ acc.length := by omega
          simp only [go_sem, Nat.reduceAdd, Nat.reduceSub, Nat.reduceMul, Nat.reduceDiv, Nat.reduceMod, Nat.reduceEqDiff, Nat.reduceLeDiff, Nat.reduceLT, Int.reduceLT, Int.reduceLE, Int.reduceEq, Int.reduceToNat, reduceIte, reduceCtorEq, List.length_nil, List.map_nil, List.length_cons, List.map_cons, List.replicate_succ, List.replicate_zero, List.set_cons_zero, List.set_cons_succ, List.take_succ_cons, List.take_zero, List.take_nil, List.length_append, List.map_append, List.cons_append, List.nil_append, List.drop_succ_cons, List.drop_zero, List.append_nil, List.getElem?_cons_zero, List.getElem?_cons_succ, eq_self, true_implies, not_true_eq_false, not_false_eq_true, false_implies, and_true, true_and, decide_true, decide_false, Bool.not_true, Bool.not_false, zV_pos hpos, hzB, hsm, hd, List.getElem?_map, Option.map_some, Sn.enc]
          have hz : AV.slice (H.key 0) 0 acc.length 2 false acc.length = zV z (H.key 0) 2 acc.length := by rw [zV_pos hpos]
          have hz3 : Blk.row true 2 ((acc.map Sn.enc).set m [.str d.key, .int .i64 (max d.ver c.ver)]) = zB z 2 ((acc.set m (maxF d c)).map Sn.enc) := by
            rw [zB_pos (by rw [List.length_map]; exact hpos2), List.map_set]; rfl
          rw [hz, hz3]
          refine ⟨i + 1, by show l.length - (i + 1) < l.length - i; omega, ?_, _, [0], rfl, Wk.of rfl (by decide) (by simp only [go_sem, zV_ren, hrho, hnew, hw, List.length_set, Nat.reduceAdd, Nat.reduceSub, Nat.reduceMul, Nat.reduceDiv, Nat.reduceMod, Nat.reduceEqDiff, Nat.reduceLeDiff, Nat.reduceLT, Int.reduceLT, Int.reduceLE, Int.reduceEq, Int.reduceToNat, reduceIte, reduceCtorEq]) (by simp only [go_sem, ↓outB_ren', ↓zB_ren, Sn.map_rens, Sn.rens, implies_true, hnew, List.length_nil, List.map_nil, List.length_cons, List.map_cons, List.replicate_succ, List.replicate_zero, List.set_cons_zero, List.set_cons_succ, List.take_succ_cons, List.take_zero, List.take_nil, List.length_append, List.map_append, List.cons_append, List.nil_append, List.drop_succ_cons, List.drop_zero, List.append_nil, List.getElem?_cons_zero, List.getElem?_cons_succ, Nat.reduceAdd, Nat.reduceSub, Nat.reduceMul, Nat.reduceDiv, Nat.reduceMod, Nat.reduceEqDiff, Nat.reduceLeDiff, Nat.reduceLT, Int.reduceLT, Int.reduceLE, Int.reduceEq, Int.reduceToNat, reduceIte, reduceCtorEq, eq_self, true_implies, not_true_eq_false, not_false_eq_true, false_implies, and_true, true_and, decide_true, decide_false, Bool.not_true, Bool.not_false])⟩
          show i + 1 ≤ l.length
          omega
        · rw [putG_not hlow hat] at hnew
          have hle := hlow.1
          refine CL.of (insert_z ins62 (i := 0) (j := 2) (xs := acc.map Sn.enc) (x := [.str c.key, .int .i64 c.ver]) (by decide) rfl rfl (List.length_map ..) hlow.1 (by omega) (by omega)) ?_
          rintro _ _ ⟨b, rfl, rfl⟩
          simp only [go_sem, Nat.reduceAdd, Nat.reduceSub, Nat.reduceMul, Nat.reduceDiv, Nat.reduceMod, Nat.reduceEqDiff, Nat.reduceLeDiff, Nat.reduceLT, Int.reduceLT, Int.reduceLE, Int.reduceEq, Int.reduceToNat, reduceIte, reduceCtorEq, List.length_nil, List.map_nil, List.length_cons, List.map_cons, List.replicate_succ, List.replicate_zero, List.set_cons_zero, List.set_cons_succ, List.take_succ_cons, List.take_zero, List.take_nil, List.length_append, List.map_append, List.cons_append, List.nil_append, List.drop_succ_cons, List.drop_zero, List.append_nil, List.getElem?_cons_zero, List.getElem?_cons_succ, hw]
          have hz : AV.slice (H.key 3) 0 (acc.length + 1) 2 false (acc.length + 1) = zV z (H.key 3) 2 (acc.length + 1) := rfl
          have hz2 : outB 2 ((acc.map Sn.enc).take m ++ [.str c.key, .int .i64 c.ver] :: (acc.map Sn.enc).drop m) = zB z 2 ((acc.take m ++ c :: acc.drop m).map Sn.enc) := by
            rw [← List.map_take, ← List.map_drop]
            show outB 2 ((acc.take m).map Sn.enc ++ (c :: acc.drop m).map Sn.enc) = _
            rw [← List.map_append, outB_pos (by rw [List.length_map, List.length_append, List.length_cons]; omega), zB_pos (by rw [List.length_map, List.length_append, List.length_cons]; omega)]
          have hl2 : (acc.take m ++ c :: acc.drop m).length = acc.length + 1 := by simp only [List.length_append, List.length_cons, List.length_take, List.length_drop]; omega
          rw [hz, hz2]
          refine ⟨i + 1, by show l.length - (i + 1) < l.length - i; omega, ?_, _, [3], rfl, Wk.of rfl (by decide) (by simp only [go_sem, zV_ren, hrho, hnew, hl2, Nat.reduceAdd, Nat.reduceSub, Nat.reduceMul, Nat.reduceDiv, Nat.reduceMod, Nat.reduceEqDiff, Nat.reduceLeDiff, Nat.reduceLT, Int.reduceLT, Int.reduceLE, Int.reduceEq, Int.reduceToNat, reduceIte, reduceCtorEq]) (by simp only [go_sem, ↓outB_ren', ↓zB_ren, Sn.map_rens, Sn.rens, implies_true, hnew, List.length_nil, List.map_nil, List.length_cons, List.map_cons, List.replicate_succ, List.replicate_zero, List.set_cons_zero, List.set_cons_succ, List.take_succ_cons, List.take_zero, List.take_nil, List.length_append, List.map_append, List.cons_append, List.nil_append, List.drop_succ_cons, List.drop_zero, List.append_nil, List.getElem?_cons_zero, List.getElem?_cons_succ, Nat.reduceAdd, Nat.reduceSub, Nat.reduceMul, Nat.reduceDiv, Nat.reduceMod, Nat.reduceEqDiff, Nat.reduceLeDiff, Nat.reduceLT, Int.reduceLT, Int.reduceLE, Int.reduceEq, Int.reduceToNat, reduceIte, reduceCtorEq, eq_self, true_implies, not_true_eq_false, not_false_eq_true, false_implies, and_true, true_and, decide_true, decide_false, Bool.not_true, Bool.not_false])⟩
          show i + 1 ≤ l.length
          omega
      · have hci : ¬ (i : Int) < (l.length : Int) := by omega
        simp only [go_sem, C40L0, Nat.reduceAdd, Nat.reduceSub, Nat.reduceMul, Nat.reduceDiv, Nat.reduceMod, Nat.reduceEqDiff, Nat.reduceLeDiff, Nat.reduceLT, Int.reduceLT, Int.reduceLE, Int.reduceEq, Int.reduceToNat, reduceIte, reduceCtorEq, List.length_nil, List.map_nil, List.length_cons, List.map_cons, List.replicate_succ, List.replicate_zero, List.set_cons_zero, List.set_cons_succ, List.take_succ_cons, List.take_zero, List.take_nil, List.length_append, List.map_append, List.cons_append, List.nil_append, List.drop_succ_cons, List.drop_zero, List.append_nil, List.getElem?_cons_zero, List.getElem?_cons_succ, eq_self, true_implies, not_true_eq_false, not_false_eq_true, false_implies, and_true, true_and, decide_true, decide_false, Bool.not_true, Bool.not_false, hci]
        rw [List.take_of_length_le (by omega), bestT, if_pos ⟨h1, h2⟩]
        exact ⟨z, _, 0, rfl, rfl, fun _ => rfl⟩
    · simp only [go_sem, Nat.reduceAdd, Nat.reduceSub, Nat.reduceMul, Nat.reduceDiv, Nat.reduceMod, Nat.reduceEqDiff, Nat.reduceLeDiff, Nat.reduceLT, Int.reduceLT, Int.reduceLE, Int.reduceEq, Int.reduceToNat, reduceIte, reduceCtorEq, eq_self, true_implies, not_true_eq_false, not_false_eq_true, false_implies, and_true, true_and, decide_true, decide_false, Bool.not_true, Bool.not_false]
      exact hbad (fun h => h2 h.2) _
  · simp only [go_sem, Nat.reduceAdd, Nat.reduceSub, Nat.reduceMul, Nat.reduceDiv, Nat.reduceMod, Nat.reduceEqDiff, Nat.reduceLeDiff, Nat.reduceLT, Int.reduceLT, Int.reduceLE, Int.reduceEq, Int.reduceToNat, reduceIte, reduceCtorEq, eq_self, true_implies, not_true_eq_false, not_false_eq_true, false_implies, and_true, true_and, decide_true, decide_false, Bool.not_true, Bool.not_false]
    exact hbad (fun h => h1 h.1) _
end Go.Proofs
