/- token: what is known of it, the law of the best of two: walked. -/
import Derived.Test.YtiadcabmonbgiaaZ15
set_option linter.all false
set_option maxRecDepth 100000
namespace Go.Proofs
open Go Go.Ev
variable {H : Heap}

theorem tok1 (k : List Nat) (n : Int) : isTok [⟨k, n⟩] ↔ okS ⟨k, n⟩ := by rw [tok_iff]; simp
theorem tok2 (k k' : List Nat) (n n' : Int) : isTok [⟨k, n⟩, ⟨k', n'⟩] ↔ (okS ⟨k, n⟩ ∧ okS ⟨k', n'⟩) ∧ ltS k k' := by rw [tok_iff]; simp
theorem okS_one (a : Nat) {n : Int} (h1 : 0 ≤ n) (h2 : n ≤ 1000000000000) : okS ⟨[a], n⟩ := ⟨⟨by simp, by show ((1 : Nat) : Int) ≤ 8; decide⟩, h1, h2⟩
theorem lt11 {x y : Nat} : ltS [x] [y] ↔ x < y := by
  rw [ltS_cons]
  exact ⟨fun h => h.elim id fun h => absurd h.2 (ltS_irrefl _), .inl⟩
theorem isTok_nil : isTok [] := fun j hj => absurd hj (Nat.not_lt_zero _)
theorem kT1 : withT [] ⟨[98], 3⟩ = [⟨[98], 3⟩] := by rw [withT, if_pos isTok_nil]; rfl
theorem kT2 : withT [⟨[98], 3⟩] ⟨[97], 1⟩ = [⟨[97], 1⟩, ⟨[98], 3⟩] := by
  rw [withT, if_pos ((tok1 _ _).2 (okS_one _ (by decide) (by decide))), putT, putG, if_neg (by rw [lt11]; decide), if_neg (by simp)]
theorem kTl : isTok [⟨[97], 1⟩, ⟨[98], 3⟩] := (tok2 _ _ _ _).2 ⟨⟨okS_one _ (by decide) (by decide), okS_one _ (by decide) (by decide)⟩, lt11.2 (by decide)⟩
theorem kT3 : bestT [⟨[97], 1⟩, ⟨[98], 3⟩] [⟨[97], 2⟩] = [⟨[97], 2⟩, ⟨[98], 3⟩] := by
  rw [bestT, if_pos ⟨kTl, (tok1 _ _).2 (okS_one _ (by decide) (by decide))⟩, bestP, List.foldl_cons, List.foldl_nil, putG, if_neg (by rw [lt11]; decide), if_pos rfl]; rfl
theorem kT4 : inT [98] [] [⟨[97], 1⟩, ⟨[98], 3⟩] = [⟨[98], 3⟩] := by
  unfold inT
  rw [List.filter_cons_of_neg, List.filter_cons_of_pos, List.filter_nil]
  · exact decide_eq_true ⟨⟨by decide, by decide, .inl rfl⟩, ⟨by simp, by decide⟩, ltS_irrefl _, .inl rfl⟩
  · rw [decide_eq_true_eq]
    exact fun h => h.2.2.1 (lt11.2 (by decide))
theorem kT5 : ¬ isTok [⟨[98], 0⟩, ⟨[97], 0⟩] := fun h => by have := lt11.1 ((tok2 _ _ _ _).1 h).2; omega
theorem kO1 : ofT [⟨[97], 1⟩, ⟨[98], 3⟩] [98] = 3 := by rw [ofT, getS, if_neg (by simp), getS, if_pos rfl]
theorem kO2 : ofT [⟨[97], 1⟩, ⟨[98], 3⟩] [99] = 0 := by rw [ofT, getS, if_neg (by simp), getS, if_neg (by simp)]; rfl
theorem f37_ok : FnOk Try.prog 37 [] H fun r G => r = .bool true ∧ G = H := by
  refine FnOk.drop (R := fun r => r = .bool true) ?_ (by rintro v rfl ρ; rw [AV.ren])
  refine FnOk.of_WW Try.func37 rfl C37ok R37ok E0 good_E0 ?_
  simp only [go_sem, C37, Nat.reduceAdd, Nat.reduceSub, Nat.reduceMul, Nat.reduceDiv, Nat.reduceMod, Nat.reduceEqDiff, Nat.reduceLeDiff, Nat.reduceLT, Int.reduceLT, Int.reduceLE, Int.reduceEq, Int.reduceToNat, reduceIte, reduceCtorEq, List.length_nil, List.map_nil, List.length_cons, List.map_cons, List.replicate_succ, List.replicate_zero, List.set_cons_zero, List.set_cons_succ, List.take_succ_cons, List.take_zero, List.take_nil, List.length_append, List.map_append, List.cons_append, List.nil_append, List.drop_succ_cons, List.drop_zero, List.append_nil, List.getElem?_cons_zero, List.getElem?_cons_succ, eq_self, true_implies, not_true_eq_false, not_false_eq_true, false_implies, and_true, true_and, decide_true, decide_false, Bool.not_true, Bool.not_false]
  refine CL.of (f43_ok (l := []) (.inl ⟨rfl, rfl⟩) (by decide) ⟨[98], 3⟩) ?_
  rintro _ _ ⟨rfl, rfl⟩
  simp only [go_sem, Nat.reduceAdd, Nat.reduceSub, Nat.reduceMul, Nat.reduceDiv, Nat.reduceMod, Nat.reduceEqDiff, Nat.reduceLeDiff, Nat.reduceLT, Int.reduceLT, Int.reduceLE, Int.reduceEq, Int.reduceToNat, reduceIte, reduceCtorEq, List.length_nil, List.map_nil, List.length_cons, List.map_cons, List.replicate_succ, List.replicate_zero, List.set_cons_zero, List.set_cons_succ, List.take_succ_cons, List.take_zero, List.take_nil, List.length_append, List.map_append, List.cons_append, List.nil_append, List.drop_succ_cons, List.drop_zero, List.append_nil, List.getElem?_cons_zero, List.getElem?_cons_succ, eq_self, true_implies, not_true_eq_false, not_false_eq_true, false_implies, and_true, true_and, decide_true, decide_false, Bool.not_true, Bool.not_false, kT1, kT2, kT3, kT4, kO1, kO2, Sn.enc, zV, zB, List.cons.injEq, Int.reduceToNat]
  refine CL.of (f43_ok (l := [⟨[98], 3⟩]) (arr_row rfl rfl) (by decide) ⟨[97], 1⟩) ?_
  rintro _ _ ⟨rfl, rfl⟩
  simp only [go_sem, Nat.reduceAdd, Nat.reduceSub, Nat.reduceMul, Nat.reduceDiv, Nat.reduceMod, Nat.reduceEqDiff, Nat.reduceLeDiff, Nat.reduceLT, Int.reduceLT, Int.reduceLE, Int.reduceEq, Int.reduceToNat, reduceIte, reduceCtorEq, List.length_nil, List.map_nil, List.length_cons, List.map_cons, List.replicate_succ, List.replicate_zero, List.set_cons_zero, List.set_cons_succ, List.take_succ_cons, List.take_zero, List.take_nil, List.length_append, List.map_append, List.cons_append, List.nil_append, List.drop_succ_cons, List.drop_zero, List.append_nil, List.getElem?_cons_zero, List.getElem?_cons_succ, eq_self, true_implies, not_true_eq_false, not_false_eq_true, false_implies, and_true, true_and, decide_true, decide_false, Bool.not_true, Bool.not_false, kT1, kT2, kT3, kT4, kO1, kO2, Sn.enc, zV, zB, List.cons.injEq, Int.reduceToNat]
  refine CL.of (f40_ok (a := [⟨[97], 1⟩, ⟨[98], 3⟩]) (l := [⟨[97], 2⟩]) (arr_row rfl rfl) (arr_row rfl rfl) (by decide) (by decide)) ?_
  rintro _ _ ⟨z, rfl, rfl⟩
  simp only [go_sem, Nat.reduceAdd, Nat.reduceSub, Nat.reduceMul, Nat.reduceDiv, Nat.reduceMod, Nat.reduceEqDiff, Nat.reduceLeDiff, Nat.reduceLT, Int.reduceLT, Int.reduceLE, Int.reduceEq, Int.reduceToNat, reduceIte, reduceCtorEq, List.length_nil, List.map_nil, List.length_cons, List.map_cons, List.replicate_succ, List.replicate_zero, List.set_cons_zero, List.set_cons_succ, List.take_succ_cons, List.take_zero, List.take_nil, List.length_append, List.map_append, List.cons_append, List.nil_append, List.drop_succ_cons, List.drop_zero, List.append_nil, List.getElem?_cons_zero, List.getElem?_cons_succ, eq_self, true_implies, not_true_eq_false, not_false_eq_true, false_implies, and_true, true_and, decide_true, decide_false, Bool.not_true, Bool.not_false, kT1, kT2, kT3, kT4, kO1, kO2, Sn.enc, zV, zB, List.cons.injEq, Int.reduceToNat]
  refine CL.one (f39_ok (l := [⟨[97], 1⟩, ⟨[98], 3⟩]) (arr_row rfl rfl) (by decide)) ?_
  rw [decide_eq_true kTl]
  simp only [go_sem, Nat.reduceAdd, Nat.reduceSub, Nat.reduceMul, Nat.reduceDiv, Nat.reduceMod, Nat.reduceEqDiff, Nat.reduceLeDiff, Nat.reduceLT, Int.reduceLT, Int.reduceLE, Int.reduceEq, Int.reduceToNat, reduceIte, reduceCtorEq, List.length_nil, List.map_nil, List.length_cons, List.map_cons, List.replicate_succ, List.replicate_zero, List.set_cons_zero, List.set_cons_succ, List.take_succ_cons, List.take_zero, List.take_nil, List.length_append, List.map_append, List.cons_append, List.nil_append, List.drop_succ_cons, List.drop_zero, List.append_nil, List.getElem?_cons_zero, List.getElem?_cons_succ, eq_self, true_implies, not_true_eq_false, not_false_eq_true, false_implies, and_true, true_and, decide_true, decide_false, Bool.not_true, Bool.not_false, kT1, kT2, kT3, kT4, kO1, kO2, Sn.enc, zV, zB, List.cons.injEq, Int.reduceToNat]
  refine CL.one (f42_ok (l := [⟨[97], 1⟩, ⟨[98], 3⟩]) (arr_row rfl rfl) (by decide) [98]) ?_
  simp only [go_sem, Nat.reduceAdd, Nat.reduceSub, Nat.reduceMul, Nat.reduceDiv, Nat.reduceMod, Nat.reduceEqDiff, Nat.reduceLeDiff, Nat.reduceLT, Int.reduceLT, Int.reduceLE, Int.reduceEq, Int.reduceToNat, reduceIte, reduceCtorEq, List.length_nil, List.map_nil, List.length_cons, List.map_cons, List.replicate_succ, List.replicate_zero, List.set_cons_zero, List.set_cons_succ, List.take_succ_cons, List.take_zero, List.take_nil, List.length_append, List.map_append, List.cons_append, List.nil_append, List.drop_succ_cons, List.drop_zero, List.append_nil, List.getElem?_cons_zero, List.getElem?_cons_succ, eq_self, true_implies, not_true_eq_false, not_false_eq_true, false_implies, and_true, true_and, decide_true, decide_false, Bool.not_true, Bool.not_false, kT1, kT2, kT3, kT4, kO1, kO2, Sn.enc, zV, zB, List.cons.injEq, Int.reduceToNat]
  refine CL.one (f42_ok (l := [⟨[97], 1⟩, ⟨[98], 3⟩]) (arr_row rfl rfl) (by decide) [99]) ?_
  simp only [go_sem, Nat.reduceAdd, Nat.reduceSub, Nat.reduceMul, Nat.reduceDiv, Nat.reduceMod, Nat.reduceEqDiff, Nat.reduceLeDiff, Nat.reduceLT, Int.reduceLT, Int.reduceLE, Int.reduceEq, Int.reduceToNat, reduceIte, reduceCtorEq, List.length_nil, List.map_nil, List.length_cons, List.map_cons, List.replicate_succ, List.replicate_zero, List.set_cons_zero, List.set_cons_succ, List.take_succ_cons, List.take_zero, List.take_nil, List.length_append, List.map_append, List.cons_append, List.nil_append, List.drop_succ_cons, List.drop_zero, List.append_nil, List.getElem?_cons_zero, List.getElem?_cons_succ, eq_self, true_implies, not_true_eq_false, not_false_eq_true, false_implies, and_true, true_and, decide_true, decide_false, Bool.not_true, Bool.not_false, kT1, kT2, kT3, kT4, kO1, kO2, Sn.enc, zV, zB, List.cons.injEq, Int.reduceToNat]
  refine CL.of (f44_ok (l := [⟨[97], 1⟩, ⟨[98], 3⟩]) (arr_row rfl rfl) (by decide) [98] []) ?_
  rintro _ _ ⟨rfl, rfl⟩
  simp only [go_sem, Nat.reduceAdd, Nat.reduceSub, Nat.reduceMul, Nat.reduceDiv, Nat.reduceMod, Nat.reduceEqDiff, Nat.reduceLeDiff, Nat.reduceLT, Int.reduceLT, Int.reduceLE, Int.reduceEq, Int.reduceToNat, reduceIte, reduceCtorEq, List.length_nil, List.map_nil, List.length_cons, List.map_cons, List.replicate_succ, List.replicate_zero, List.set_cons_zero, List.set_cons_succ, List.take_succ_cons, List.take_zero, List.take_nil, List.length_append, List.map_append, List.cons_append, List.nil_append, List.drop_succ_cons, List.drop_zero, List.append_nil, List.getElem?_cons_zero, List.getElem?_cons_succ, eq_self, true_implies, not_true_eq_false, not_false_eq_true, false_implies, and_true, true_and, decide_true, decide_false, Bool.not_true, Bool.not_false, kT1, kT2, kT3, kT4, kO1, kO2, Sn.enc, zV, zB, List.cons.injEq, Int.reduceToNat]
  refine CL.one (f39_ok (l := [⟨[98], 0⟩, ⟨[97], 0⟩]) (arr_row rfl rfl) (by decide)) ?_
  rw [decide_eq_false kT5]
  simp only [go_sem, Nat.reduceAdd, Nat.reduceSub, Nat.reduceMul, Nat.reduceDiv, Nat.reduceMod, Nat.reduceEqDiff, Nat.reduceLeDiff, Nat.reduceLT, Int.reduceLT, Int.reduceLE, Int.reduceEq, Int.reduceToNat, reduceIte, reduceCtorEq, List.length_nil, List.map_nil, List.length_cons, List.map_cons, List.replicate_succ, List.replicate_zero, List.set_cons_zero, List.set_cons_succ, List.take_succ_cons, List.take_zero, List.take_nil, List.length_append, List.map_append, List.cons_append, List.nil_append, List.drop_succ_cons, List.drop_zero, List.append_nil, List.getElem?_cons_zero, List.getElem?_cons_succ, eq_self, true_implies, not_true_eq_false, not_false_eq_true, false_implies, and_true, true_and, decide_true, decide_false, Bool.not_true, Bool.not_false, kT1, kT2, kT3, kT4, kO1, kO2, Sn.enc, zV, zB, List.cons.injEq, Int.reduceToNat]
  exact ⟨_, rfl⟩
noncomputable def both (o p : Option Sn) : Option Sn := match o, p with
  | none, p => p
  | some c, none => some c
  | some c, some d => some (maxF c d)
theorem getS_best : ∀ {b a : List Sn}, up a → up b → ∀ k, getS (bestP a b) k = both (getS a k) (getS b k)
  | [], a, _, _, k => by show getS a k = both (getS a k) none; cases getS a k <;> rfl
  | x :: b, a, ha, hb, k => by
    obtain ⟨h1, h2⟩ := up_cons.1 hb
    show getS (bestP (putG maxF a x) b) k = _
    rw [getS_best (putG_up maxF_key ha) h2, getS_put maxF_key ha, getS]
    by_cases e : x.key = k
    · rw [if_pos e, if_pos e, getS_none (l := b) fun c hc g => by have := h1 c hc; rw [g, ← e] at this; exact ltS_irrefl _ this]
      cases getS a k <;> rfl
    · rw [if_neg e, if_neg e]
theorem bestP_ok : ∀ {b a : List Sn}, (∀ c ∈ a, okS c) → (∀ c ∈ b, okS c) → ∀ c ∈ bestP a b, okS c
  | [], a, ha, _, c, hc => ha c hc
  | x :: b, a, ha, hb, c, hc => by
    refine bestP_ok (b := b) (a := putG maxF a x) (fun c hc => ?_) (fun c hc => hb c (by simp [hc])) c hc
    have hx := hb x (by simp)
    rcases mem_putG hc with rfl | hc | ⟨d, hd, hk, rfl⟩
    · exact hx
    · exact ha c hc
    · have := ha d hd
      refine ⟨this.1, ?_, ?_⟩
      · show 0 ≤ max d.ver x.ver
        have := this.2.1; omega
      · show max d.ver x.ver ≤ _
        have := this.2.2; have := hx.2.2; omega
theorem bestP_tok {a b : List Sn} (ha : isTok a) (hb : isTok b) : isTok (bestP a b) :=
  tok_iff.2 ⟨bestP_ok (tok_iff.1 ha).1 (tok_iff.1 hb).1, bestP_up ha.up⟩
theorem bestT_eq {a b : List Sn} (ha : isTok a) (hb : isTok b) : bestT a b = bestP a b := if_pos ⟨ha, hb⟩
theorem both_comm {a b : List Sn} (k : List Nat) : both (getS a k) (getS b k) = both (getS b k) (getS a k) := by
  cases h1 : getS a k <;> cases h2 : getS b k <;> try rfl
  rename_i c d
  show some (maxF c d) = some (maxF d c)
  have hc := (getS_key h1).1
  have hd := (getS_key h2).1
  unfold maxF
  rw [hc, hd, Int.max_comm]
theorem best_comm {a b : List Sn} (ha : isTok a) (hb : isTok b) : bestP a b = bestP b a :=
  up_ext (bestP_up ha.up) (bestP_up hb.up) fun k => by rw [getS_best ha.up hb.up, getS_best hb.up ha.up, both_comm]
theorem getS_ok {a : List Sn} (ha : isTok a) {k : List Nat} {c : Sn} (h : getS a k = some c) : 0 ≤ c.ver := ((tok_iff.1 ha).1 c (getS_key h).2).2.1
theorem best_of {a b : List Sn} (ha : isTok a) (hb : isTok b) (k : List Nat) : ofT (bestP a b) k = max (ofT a k) (ofT b k) := by
  unfold ofT
  rw [getS_best ha.up hb.up]
  cases h1 : getS a k <;> cases h2 : getS b k
  · rfl
  · rename_i d; have := getS_ok hb h2; show d.ver = max 0 d.ver; omega
  · rename_i d; have := getS_ok ha h1; show d.ver = max d.ver 0; omega
  · rfl
theorem best_again {a b : List Sn} (ha : isTok a) (hb : isTok b) : bestP (bestP a b) a = bestP a b :=
  up_ext (bestP_up (bestP_up ha.up)) (bestP_up ha.up) fun k => by
    rw [getS_best (bestP_up ha.up) ha.up, getS_best ha.up hb.up]
    cases getS a k <;> cases getS b k <;> try rfl
    all_goals simp only [both, maxF]; congr 2; omega
theorem best_self {a : List Sn} (ha : isTok a) : bestP a a = a :=
  up_ext (bestP_up ha.up) ha.up fun k => by
    rw [getS_best ha.up ha.up]
    cases getS a k
    · rfl
    · simp only [both, maxF]; congr 2; omega
theorem f9_ok {u v : AV} {a l : List Sn} (hB : Arr H 2 u (a.map Sn.enc)) (hA : Arr H 2 v (l.map Sn.enc)) (ha : a.length ≤ 9223372036854775807) (hl : l.length ≤ 9223372036854775807) (k : List Nat) :
    FnOk Try.prog 9 [u, v, .str k] H fun r G => r = .bool true ∧ G = H := by
  refine FnOk.assume fun hok => ?_
  refine FnOk.drop (R := fun r => r = .bool true) ?_ (by rintro v rfl ρ; rw [AV.ren])
  refine FnOk.of_WW Try.func9 rfl C9ok R9ok E0 good_E0 ?_
  simp only [go_sem, C9, Nat.reduceAdd, Nat.reduceSub, Nat.reduceMul, Nat.reduceDiv, Nat.reduceMod, Nat.reduceEqDiff, Nat.reduceLeDiff, Nat.reduceLT, Int.reduceLT, Int.reduceLE, Int.reduceEq, Int.reduceToNat, reduceIte, reduceCtorEq, List.length_nil, List.map_nil, List.length_cons, List.map_cons, List.replicate_succ, List.replicate_zero, List.set_cons_zero, List.set_cons_succ, List.take_succ_cons, List.take_zero, List.take_nil, List.length_append, List.map_append, List.cons_append, List.nil_append, List.drop_succ_cons, List.drop_zero, List.append_nil, List.getElem?_cons_zero, List.getElem?_cons_succ, eq_self, true_implies, not_true_eq_false, not_false_eq_true, false_implies, and_true, true_and, decide_true, decide_false, Bool.not_true, Bool.not_false]
  refine CL.one f37_ok ?_
  simp only [go_sem, Nat.reduceAdd, Nat.reduceSub, Nat.reduceMul, Nat.reduceDiv, Nat.reduceMod, Nat.reduceEqDiff, Nat.reduceLeDiff, Nat.reduceLT, Int.reduceLT, Int.reduceLE, Int.reduceEq, Int.reduceToNat, reduceIte, reduceCtorEq, List.length_nil, List.map_nil, List.length_cons, List.map_cons, List.replicate_succ, List.replicate_zero, List.set_cons_zero, List.set_cons_succ, List.take_succ_cons, List.take_zero, List.take_nil, List.length_append, List.map_append, List.cons_append, List.nil_append, List.drop_succ_cons, List.drop_zero, List.append_nil, List.getElem?_cons_zero, List.getElem?_cons_succ, eq_self, true_implies, not_true_eq_false, not_false_eq_true, false_implies, and_true, true_and, decide_true, decide_false, Bool.not_true, Bool.not_false]
  refine CL.bool (f38_ok (hB.ext []) ha) (fun h1 => ?_) (fun h1 => ?_)
  · simp only [go_sem, Nat.reduceAdd, Nat.reduceSub, Nat.reduceMul, Nat.reduceDiv, Nat.reduceMod, Nat.reduceEqDiff, Nat.reduceLeDiff, Nat.reduceLT, Int.reduceLT, Int.reduceLE, Int.reduceEq, Int.reduceToNat, reduceIte, reduceCtorEq, List.length_nil, List.map_nil, List.length_cons, List.map_cons, List.replicate_succ, List.replicate_zero, List.set_cons_zero, List.set_cons_succ, List.take_succ_cons, List.take_zero, List.take_nil, List.length_append, List.map_append, List.cons_append, List.nil_append, List.drop_succ_cons, List.drop_zero, List.append_nil, List.getElem?_cons_zero, List.getElem?_cons_succ, eq_self, true_implies, not_true_eq_false, not_false_eq_true, false_implies, and_true, true_and, decide_true, decide_false, Bool.not_true, Bool.not_false]
    refine CL.bool (f38_ok (hA.ext []) hl) (fun h2 => ?_) (fun h2 => ?_)
    · have ha1 := h1.2
      have hl1 := h2.2
      simp only [go_sem, Nat.reduceAdd, Nat.reduceSub, Nat.reduceMul, Nat.reduceDiv, Nat.reduceMod, Nat.reduceEqDiff, Nat.reduceLeDiff, Nat.reduceLT, Int.reduceLT, Int.reduceLE, Int.reduceEq, Int.reduceToNat, reduceIte, reduceCtorEq, List.length_nil, List.map_nil, List.length_cons, List.map_cons, List.replicate_succ, List.replicate_zero, List.set_cons_zero, List.set_cons_succ, List.take_succ_cons, List.take_zero, List.take_nil, List.length_append, List.map_append, List.cons_append, List.nil_append, List.drop_succ_cons, List.drop_zero, List.append_nil, List.getElem?_cons_zero, List.getElem?_cons_succ, eq_self, true_implies, not_true_eq_false, not_false_eq_true, false_implies, and_true, true_and, decide_true, decide_false, Bool.not_true, Bool.not_false]
      refine CL.bool (f39_ok (hB.ext []) (by omega)) (fun h3 => ?_) (fun h3 => ?_)
      · simp only [go_sem, Nat.reduceAdd, Nat.reduceSub, Nat.reduceMul, Nat.reduceDiv, Nat.reduceMod, Nat.reduceEqDiff, Nat.reduceLeDiff, Nat.reduceLT, Int.reduceLT, Int.reduceLE, Int.reduceEq, Int.reduceToNat, reduceIte, reduceCtorEq, List.length_nil, List.map_nil, List.length_cons, List.map_cons, List.replicate_succ, List.replicate_zero, List.set_cons_zero, List.set_cons_succ, List.take_succ_cons, List.take_zero, List.take_nil, List.length_append, List.map_append, List.cons_append, List.nil_append, List.drop_succ_cons, List.drop_zero, List.append_nil, List.getElem?_cons_zero, List.getElem?_cons_succ, eq_self, true_implies, not_true_eq_false, not_false_eq_true, false_implies, and_true, true_and, decide_true, decide_false, Bool.not_true, Bool.not_false]
        refine CL.bool (f39_ok (hA.ext []) (by omega)) (fun h4 => ?_) (fun h4 => ?_)
        · simp only [go_sem, Nat.reduceAdd, Nat.reduceSub, Nat.reduceMul, Nat.reduceDiv, Nat.reduceMod, Nat.reduceEqDiff, Nat.reduceLeDiff, Nat.reduceLT, Int.reduceLT, Int.reduceLE, Int.reduceEq, Int.reduceToNat, reduceIte, reduceCtorEq, List.length_nil, List.map_nil, List.length_cons, List.map_cons, List.replicate_succ, List.replicate_zero, List.set_cons_zero, List.set_cons_succ, List.take_succ_cons, List.take_zero, List.take_nil, List.length_append, List.map_append, List.cons_append, List.nil_append, List.drop_succ_cons, List.drop_zero, List.append_nil, List.getElem?_cons_zero, List.getElem?_cons_succ, eq_self, true_implies, not_true_eq_false, not_false_eq_true, false_implies, and_true, true_and, decide_true, decide_false, Bool.not_true, Bool.not_false]
          refine ⟨fun _ => ⟨_, rfl⟩, fun h5 => ?_⟩
          refine CL.of (f40_ok (hB.ext []) (hA.ext []) (by omega) (by omega)) ?_
          rintro _ _ ⟨z, rfl, rfl⟩
          rw [bestT_eq h3 h4]
          simp only [go_sem, Nat.reduceAdd, Nat.reduceSub, Nat.reduceMul, Nat.reduceDiv, Nat.reduceMod, Nat.reduceEqDiff, Nat.reduceLeDiff, Nat.reduceLT, Int.reduceLT, Int.reduceLE, Int.reduceEq, Int.reduceToNat, reduceIte, reduceCtorEq, List.length_nil, List.map_nil, List.length_cons, List.map_cons, List.replicate_succ, List.replicate_zero, List.set_cons_zero, List.set_cons_succ, List.take_succ_cons, List.take_zero, List.take_nil, List.length_append, List.map_append, List.cons_append, List.nil_append, List.drop_succ_cons, List.drop_zero, List.append_nil, List.getElem?_cons_zero, List.getElem?_cons_succ, eq_self, true_implies, not_true_eq_false, not_false_eq_true, false_implies, and_true, true_and, decide_true, decide_false, Bool.not_true, Bool.not_false]
          refine CL.of (f40_ok (hA.ext _) (hB.ext _) (by omega) (by omega)) ?_
          rintro _ _ ⟨y, rfl, rfl⟩
          rw [bestT_eq h4 h3, ← best_comm h3 h4]
          have hml := bestP_len (a := a) (b := l)
          have hmt := bestP_tok h3 h4
          simp only [go_sem, Nat.reduceAdd, Nat.reduceSub, Nat.reduceMul, Nat.reduceDiv, Nat.reduceMod, Nat.reduceEqDiff, Nat.reduceLeDiff, Nat.reduceLT, Int.reduceLT, Int.reduceLE, Int.reduceEq, Int.reduceToNat, reduceIte, reduceCtorEq, List.length_nil, List.map_nil, List.length_cons, List.map_cons, List.replicate_succ, List.replicate_zero, List.set_cons_zero, List.set_cons_succ, List.take_succ_cons, List.take_zero, List.take_nil, List.length_append, List.map_append, List.cons_append, List.nil_append, List.drop_succ_cons, List.drop_zero, List.append_nil, List.getElem?_cons_zero, List.getElem?_cons_succ, eq_self, true_implies, not_true_eq_false, not_false_eq_true, false_implies, and_true, true_and, decide_true, decide_false, Bool.not_true, Bool.not_false]
          refine CL.one (f39_ok (arr_zV rfl (List.length_map ..)) (by omega)) ?_
          rw [decide_eq_true hmt]
          simp only [go_sem, Nat.reduceAdd, Nat.reduceSub, Nat.reduceMul, Nat.reduceDiv, Nat.reduceMod, Nat.reduceEqDiff, Nat.reduceLeDiff, Nat.reduceLT, Int.reduceLT, Int.reduceLE, Int.reduceEq, Int.reduceToNat, reduceIte, reduceCtorEq, List.length_nil, List.map_nil, List.length_cons, List.map_cons, List.replicate_succ, List.replicate_zero, List.set_cons_zero, List.set_cons_succ, List.take_succ_cons, List.take_zero, List.take_nil, List.length_append, List.map_append, List.cons_append, List.nil_append, List.drop_succ_cons, List.drop_zero, List.append_nil, List.getElem?_cons_zero, List.getElem?_cons_succ, eq_self, true_implies, not_true_eq_false, not_false_eq_true, false_implies, and_true, true_and, decide_true, decide_false, Bool.not_true, Bool.not_false]
          refine CL.one (f41_ok (arr_zV rfl (List.length_map ..)) (arr_zV rfl (List.length_map ..)) (by omega)) ?_
          rw [decide_eq_true rfl]
          simp only [go_sem, Nat.reduceAdd, Nat.reduceSub, Nat.reduceMul, Nat.reduceDiv, Nat.reduceMod, Nat.reduceEqDiff, Nat.reduceLeDiff, Nat.reduceLT, Int.reduceLT, Int.reduceLE, Int.reduceEq, Int.reduceToNat, reduceIte, reduceCtorEq, List.length_nil, List.map_nil, List.length_cons, List.map_cons, List.replicate_succ, List.replicate_zero, List.set_cons_zero, List.set_cons_succ, List.take_succ_cons, List.take_zero, List.take_nil, List.length_append, List.map_append, List.cons_append, List.nil_append, List.drop_succ_cons, List.drop_zero, List.append_nil, List.getElem?_cons_zero, List.getElem?_cons_succ, eq_self, true_implies, not_true_eq_false, not_false_eq_true, false_implies, and_true, true_and, decide_true, decide_false, Bool.not_true, Bool.not_false]
          refine CL.one (f42_ok (arr_zV rfl (List.length_map ..)) (by omega) k) ?_
          simp only [go_sem, Nat.reduceAdd, Nat.reduceSub, Nat.reduceMul, Nat.reduceDiv, Nat.reduceMod, Nat.reduceEqDiff, Nat.reduceLeDiff, Nat.reduceLT, Int.reduceLT, Int.reduceLE, Int.reduceEq, Int.reduceToNat, reduceIte, reduceCtorEq, List.length_nil, List.map_nil, List.length_cons, List.map_cons, List.replicate_succ, List.replicate_zero, List.set_cons_zero, List.set_cons_succ, List.take_succ_cons, List.take_zero, List.take_nil, List.length_append, List.map_append, List.cons_append, List.nil_append, List.drop_succ_cons, List.drop_zero, List.append_nil, List.getElem?_cons_zero, List.getElem?_cons_succ, eq_self, true_implies, not_true_eq_false, not_false_eq_true, false_implies, and_true, true_and, decide_true, decide_false, Bool.not_true, Bool.not_false]
          refine CL.one (f42_ok (hB.ext _) (by omega) k) ?_
          simp only [go_sem, Nat.reduceAdd, Nat.reduceSub, Nat.reduceMul, Nat.reduceDiv, Nat.reduceMod, Nat.reduceEqDiff, Nat.reduceLeDiff, Nat.reduceLT, Int.reduceLT, Int.reduceLE, Int.reduceEq, Int.reduceToNat, reduceIte, reduceCtorEq, List.length_nil, List.map_nil, List.length_cons, List.map_cons, List.replicate_succ, List.replicate_zero, List.set_cons_zero, List.set_cons_succ, List.take_succ_cons, List.take_zero, List.take_nil, List.length_append, List.map_append, List.cons_append, List.nil_append, List.drop_succ_cons, List.drop_zero, List.append_nil, List.getElem?_cons_zero, List.getElem?_cons_succ, eq_self, true_implies, not_true_eq_false, not_false_eq_true, false_implies, and_true, true_and, decide_true, decide_false, Bool.not_true, Bool.not_false]
          refine CL.one (f42_ok (hA.ext _) (by omega) k) ?_
          simp only [go_sem, Nat.reduceAdd, Nat.reduceSub, Nat.reduceMul, Nat.reduceDiv, Nat.reduceMod, Nat.reduceEqDiff, Nat.reduceLeDiff, Nat.reduceLT, Int.reduceLT, Int.reduceLE, Int.reduceEq, Int.reduceToNat, reduceIte, reduceCtorEq, List.length_nil, List.map_nil, List.length_cons, List.map_cons, List.replicate_succ, List.replicate_zero, List.set_cons_zero, List.set_cons_succ, List.take_succ_cons, List.take_zero, List.take_nil, List.length_append, List.map_append, List.cons_append, List.nil_append, List.drop_succ_cons, List.drop_zero, List.append_nil, List.getElem?_cons_zero, List.getElem?_cons_succ, eq_self, true_implies, not_true_eq_false, not_false_eq_true, false_implies, and_true, true_and, decide_true, decide_false, Bool.not_true, Bool.not_false, best_of h3 h4]
          refine CL.of (f40_ok (arr_zV rfl (List.length_map ..)) (hB.ext _) (by omega) (by omega)) ?_
          rintro _ _ ⟨y2, rfl, rfl⟩
          rw [bestT_eq hmt h3, best_again h3 h4]
          simp only [go_sem, Nat.reduceAdd, Nat.reduceSub, Nat.reduceMul, Nat.reduceDiv, Nat.reduceMod, Nat.reduceEqDiff, Nat.reduceLeDiff, Nat.reduceLT, Int.reduceLT, Int.reduceLE, Int.reduceEq, Int.reduceToNat, reduceIte, reduceCtorEq, List.length_nil, List.map_nil, List.length_cons, List.map_cons, List.replicate_succ, List.replicate_zero, List.set_cons_zero, List.set_cons_succ, List.take_succ_cons, List.take_zero, List.take_nil, List.length_append, List.map_append, List.cons_append, List.nil_append, List.drop_succ_cons, List.drop_zero, List.append_nil, List.getElem?_cons_zero, List.getElem?_cons_succ, eq_self, true_implies, not_true_eq_false, not_false_eq_true, false_implies, and_true, true_and, decide_true, decide_false, Bool.not_true, Bool.not_false]
          refine CL.one (f41_ok (arr_zV rfl (List.length_map ..)) (arr_zV rfl (List.length_map ..)) (by omega)) ?_
          rw [decide_eq_true rfl]
          simp only [go_sem, Nat.reduceAdd, Nat.reduceSub, Nat.reduceMul, Nat.reduceDiv, Nat.reduceMod, Nat.reduceEqDiff, Nat.reduceLeDiff, Nat.reduceLT, Int.reduceLT, Int.reduceLE, Int.reduceEq, Int.reduceToNat, reduceIte, reduceCtorEq, List.length_nil, List.map_nil, List.length_cons, List.map_cons, List.replicate_succ, List.replicate_zero, List.set_cons_zero, List.set_cons_succ, List.take_succ_cons, List.take_zero, List.take_nil, List.length_append, List.map_append, List.cons_append, List.nil_append, List.drop_succ_cons, List.drop_zero, List.append_nil, List.getElem?_cons_zero, List.getElem?_cons_succ, eq_self, true_implies, not_true_eq_false, not_false_eq_true, false_implies, and_true, true_and, decide_true, decide_false, Bool.not_true, Bool.not_false]
          refine CL.of (f40_ok (hB.ext _) (hB.ext _) (by omega) (by omega)) ?_
          rintro _ _ ⟨y3, rfl, rfl⟩
          rw [bestT_eq h3 h3, best_self h3]
          simp only [go_sem, Nat.reduceAdd, Nat.reduceSub, Nat.reduceMul, Nat.reduceDiv, Nat.reduceMod, Nat.reduceEqDiff, Nat.reduceLeDiff, Nat.reduceLT, Int.reduceLT, Int.reduceLE, Int.reduceEq, Int.reduceToNat, reduceIte, reduceCtorEq, List.length_nil, List.map_nil, List.length_cons, List.map_cons, List.replicate_succ, List.replicate_zero, List.set_cons_zero, List.set_cons_succ, List.take_succ_cons, List.take_zero, List.take_nil, List.length_append, List.map_append, List.cons_append, List.nil_append, List.drop_succ_cons, List.drop_zero, List.append_nil, List.getElem?_cons_zero, List.getElem?_cons_succ, eq_self, true_implies, not_true_eq_false, not_false_eq_true, false_implies, and_true, true_and, decide_true, decide_false, Bool.not_true, Bool.not_false]
          refine CL.one (f41_ok (arr_zV rfl (List.length_map ..)) (hB.ext _) (by omega)) ?_
          rw [decide_eq_true rfl]
          simp only [go_sem, Nat.reduceAdd, Nat.reduceSub, Nat.reduceMul, Nat.reduceDiv, Nat.reduceMod, Nat.reduceEqDiff, Nat.reduceLeDiff, Nat.reduceLT, Int.reduceLT, Int.reduceLE, Int.reduceEq, Int.reduceToNat, reduceIte, reduceCtorEq, List.length_nil, List.map_nil, List.length_cons, List.map_cons, List.replicate_succ, List.replicate_zero, List.set_cons_zero, List.set_cons_succ, List.take_succ_cons, List.take_zero, List.take_nil, List.length_append, List.map_append, List.cons_append, List.nil_append, List.drop_succ_cons, List.drop_zero, List.append_nil, List.getElem?_cons_zero, List.getElem?_cons_succ, eq_self, true_implies, not_true_eq_false, not_false_eq_true, false_implies, and_true, true_and, decide_true, decide_false, Bool.not_true, Bool.not_false]
          exact ⟨_, rfl⟩
        · simp only [go_sem, Nat.reduceAdd, Nat.reduceSub, Nat.reduceMul, Nat.reduceDiv, Nat.reduceMod, Nat.reduceEqDiff, Nat.reduceLeDiff, Nat.reduceLT, Int.reduceLT, Int.reduceLE, Int.reduceEq, Int.reduceToNat, reduceIte, reduceCtorEq, List.length_nil, List.map_nil, List.length_cons, List.map_cons, List.replicate_succ, List.replicate_zero, List.set_cons_zero, List.set_cons_succ, List.take_succ_cons, List.take_zero, List.take_nil, List.length_append, List.map_append, List.cons_append, List.nil_append, List.drop_succ_cons, List.drop_zero, List.append_nil, List.getElem?_cons_zero, List.getElem?_cons_succ, eq_self, true_implies, not_true_eq_false, not_false_eq_true, false_implies, and_true, true_and, decide_true, decide_false, Bool.not_true, Bool.not_false]
          exact ⟨_, rfl⟩
      · simp only [go_sem, Nat.reduceAdd, Nat.reduceSub, Nat.reduceMul, Nat.reduceDiv, Nat.reduceMod, Nat.reduceEqDiff, Nat.reduceLeDiff, Nat.reduceLT, Int.reduceLT, Int.reduceLE, Int.reduceEq, Int.reduceToNat, reduceIte, reduceCtorEq, List.length_nil, List.map_nil, List.length_cons, List.map_cons, List.replicate_succ, List.replicate_zero, List.set_cons_zero, List.set_cons_succ, List.take_succ_cons, List.take_zero, List.take_nil, List.length_append, List.map_append, List.cons_append, List.nil_append, List.drop_succ_cons, List.drop_zero, List.append_nil, List.getElem?_cons_zero, List.getElem?_cons_succ, eq_self, true_implies, not_true_eq_false, not_false_eq_true, false_implies, and_true, true_and, decide_true, decide_false, Bool.not_true, Bool.not_false]
        exact ⟨_, rfl⟩
    · simp only [go_sem, Nat.reduceAdd, Nat.reduceSub, Nat.reduceMul, Nat.reduceDiv, Nat.reduceMod, Nat.reduceEqDiff, Nat.reduceLeDiff, Nat.reduceLT, Int.reduceLT, Int.reduceLE, Int.reduceEq, Int.reduceToNat, reduceIte, reduceCtorEq, List.length_nil, List.map_nil, List.length_cons, List.map_cons, List.replicate_succ, List.replicate_zero, List.set_cons_zero, List.set_cons_succ, List.take_succ_cons, List.take_zero, List.take_nil, List.length_append, List.map_append, List.cons_append, List.nil_append, List.drop_succ_cons, List.drop_zero, List.append_nil, List.getElem?_cons_zero, List.getElem?_cons_succ, eq_self, true_implies, not_true_eq_false, not_false_eq_true, false_implies, and_true, true_and, decide_true, decide_false, Bool.not_true, Bool.not_false]
      exact ⟨_, rfl⟩
  · simp only [go_sem, Nat.reduceAdd, Nat.reduceSub, Nat.reduceMul, Nat.reduceDiv, Nat.reduceMod, Nat.reduceEqDiff, Nat.reduceLeDiff, Nat.reduceLT, Int.reduceLT, Int.reduceLE, Int.reduceEq, Int.reduceToNat, reduceIte, reduceCtorEq, List.length_nil, List.map_nil, List.length_cons, List.map_cons, List.replicate_succ, List.replicate_zero, List.set_cons_zero, List.set_cons_succ, List.take_succ_cons, List.take_zero, List.take_nil, List.length_append, List.map_append, List.cons_append, List.nil_append, List.drop_succ_cons, List.drop_zero, List.append_nil, List.getElem?_cons_zero, List.getElem?_cons_succ, eq_self, true_implies, not_true_eq_false, not_false_eq_true, false_implies, and_true, true_and, decide_true, decide_false, Bool.not_true, Bool.not_false]
    exact ⟨_, rfl⟩
end Go.Proofs
/- token: versions noted one by one, the plain law; what Of answers, as an oracle. -/

set_option linter.all false
set_option maxRecDepth 100000
namespace Go.Proofs
open Go Go.Ev
variable {H : Heap}

theorem arr_same {v : AV} {esz : Nat} {xs ys : List (List AV)} (hx : Arr H esz v xs) (hy : Arr H esz v ys) (he : 0 < esz) : xs = ys := by
  rcases hx with ⟨rfl, rfl⟩ | ⟨k, off, ex, cap, rfl, _, h1⟩
  · rcases hy with ⟨_, rfl⟩ | ⟨_, _, _, _, h, _⟩
    · rfl
    · cases h
  · rcases hy with ⟨h, _⟩ | ⟨k', off', ex', cap', h, _, h2⟩
    · cases h
    · injection h with e1 e2 e3 e4 e5 e6
      subst e1 e2
      by_cases hn : xs = []
      · subst hn
        exact (List.length_eq_zero_iff.1 (by rw [← e3]; rfl)).symm
      · have hn' : ys ≠ [] := by intro h; subst h; exact hn (List.length_eq_zero_iff.1 (by rw [e3]; rfl))
        obtain ⟨r, wr, rows, e7, e8, e9⟩ := h1 hn
        obtain ⟨r', wr', rows', f7, f8, f9⟩ := h2 hn'
        rw [e8] at f8; cases f8
        have : r = r' := by
          have := e7.symm.trans f7
          exact Nat.eq_of_mul_eq_mul_right he this
        subst this
        rw [← e9, ← f9, e3]
theorem Sn.enc_one {a b : Sn} (h : a.enc = b.enc) : a = b := by
  simp [Sn.enc] at h
  exact Sn.enc_inj h
noncomputable def snsOf (H : Heap) (v : AV) : Option (List Sn) := open Classical in if h : ∃ l : List Sn, Arr H 2 v (l.map Sn.enc) ∧ l.length < 4294967296 then some (Classical.choose h) else none
theorem snsOf_eq {v : AV} {l : List Sn} (h : Arr H 2 v (l.map Sn.enc)) (hl : l.length < 4294967296) : snsOf H v = some l := by
  unfold snsOf
  have hex : ∃ l : List Sn, Arr H 2 v (l.map Sn.enc) ∧ l.length < 4294967296 := ⟨l, h, hl⟩
  rw [dif_pos hex]
  congr 1
  have := arr_same (Classical.choose_spec hex).1 h (by decide)
  exact List.map_inj_right (fun _ _ => Sn.enc_one) |>.1 this
theorem snsOf_spec {v : AV} {l : List Sn} (h : snsOf H v = some l) : Arr H 2 v (l.map Sn.enc) ∧ l.length < 4294967296 := by
  unfold snsOf at h
  split at h
  · rename_i hex
    cases h
    exact Classical.choose_spec hex
  · cases h
noncomputable def ET : FuncId → List AV → Heap → RC
  | 42, [v, .str k], H => match snsOf H v with | some l => .ok (.int .i64 (ofT l k)) H | none => .fail
  | _, _, _ => .fail
theorem good_ET : Good Try.prog ET := by
  intro f args H r G he φ w args' ha hw
  refine (?_ : FnOk Try.prog f args H fun v' G' => v' = r ∧ G' = G).one φ w args' ha hw
  unfold ET at he
  split at he
  · split at he
    · rename_i l hl
      obtain ⟨h1, h2⟩ := snsOf_spec hl
      cases he
      exact f42_ok h1 (by omega) _
    · cases he
  · cases he
theorem e42 {v : AV} {l : List Sn} (h : Arr H 2 v (l.map Sn.enc)) (hl : l.length < 4294967296) (k : List Nat) : ET 42 [v, .str k] H = .ok (.int .i64 (ofT l k)) H := by
  show (match snsOf H v with | some l => RC.ok (.int .i64 (ofT l k)) H | none => .fail) = _
  rw [snsOf_eq h hl]
/-! ### The tokens that are noted -/
def mkS (F : Nat → Nat) (k : Nat) : Sn := ⟨[97 + k], (F k : Int)⟩
def keysS (F : Nat → Nat) : List Nat := (List.range 26).filter fun k => decide (0 < F k)
def canon (F : Nat → Nat) : List Sn := (keysS F).map (mkS F)
theorem getS_map (F : Nat → Nat) : ∀ (l : List Nat) (k : Nat), getS (l.map (mkS F)) [97 + k] = if k ∈ l then some (mkS F k) else none
  | [], k => by simp [getS]
  | j :: l, k => by
    rw [List.map_cons, getS, getS_map F l k]
    by_cases h : j = k
    · subst h; rw [if_pos (by rfl), if_pos (by simp)]
    · rw [if_neg (by show ¬ [97 + j] = [97 + k]; simp; exact h)]
      by_cases h2 : k ∈ l
      · rw [if_pos h2, if_pos (by simp [h2])]
      · rw [if_neg h2, if_neg (by simp [h2]; exact fun e => h e.symm)]
theorem getS_other (F : Nat → Nat) {key : List Nat} (h : ∀ k, ¬ key = [97 + k]) (l : List Nat) : getS (l.map (mkS F)) key = none :=
  getS_none fun c hc e => by
    obtain ⟨k, _, rfl⟩ := List.mem_map.1 hc
    exact h k e.symm
theorem mem_keysS {F : Nat → Nat} {k : Nat} : k ∈ keysS F ↔ k < 26 ∧ 0 < F k := by
  unfold keysS
  rw [List.mem_filter, List.mem_range, decide_eq_true_eq]
theorem canon_up (F : Nat → Nat) : up (canon F) := by
  unfold canon keysS up
  rw [List.pairwise_map]
  refine List.Pairwise.filter _ ?_
  exact (List.pairwise_lt_range).imp fun h => lt11.2 (by omega)
theorem canon_tok {F : Nat → Nat} (h : ∀ k, F k ≤ 1000) : isTok (canon F) := by
  refine tok_iff.2 ⟨fun c hc => ?_, canon_up F⟩
  obtain ⟨k, hk, rfl⟩ := List.mem_map.1 hc
  exact okS_one _ (by omega) (by have := h k; omega)
def upd (F : Nat → Nat) (k m : Nat) : Nat → Nat := fun j => if j = k then m else F j
theorem canon_put {F : Nat → Nat} {k m : Nat} (hk : k < 26) (hm : 0 < m) : putT (canon F) ⟨[97 + k], (m : Int)⟩ = canon (upd F k m) := by
  have hf : ∀ d x : Sn, d.key = x.key → ((fun _ x => x : Sn → Sn → Sn) d x).key = x.key := fun _ _ _ => rfl
  refine up_ext (putG_up hf (canon_up F)) (canon_up _) fun key => ?_
  unfold putT
  rw [getS_put hf (canon_up F)]
  by_cases hkey : ∃ j, key = [97 + j]
  · obtain ⟨j, rfl⟩ := hkey
    unfold canon
    rw [getS_map, getS_map]
    by_cases e : k = j
    · subst e
      have hm' : k ∈ keysS (upd F k m) := mem_keysS.2 ⟨hk, by unfold upd; rw [if_pos rfl]; exact hm⟩
      rw [if_pos rfl, if_pos hm']
      have : mkS (upd F k m) k = ⟨[97 + k], (m : Int)⟩ := by unfold mkS upd; rw [if_pos rfl]
      rw [this]
      split <;> rfl
    · rw [if_neg (by show ¬ [97 + k] = [97 + j]; simp; exact e)]
      have h1 : upd F k m j = F j := if_neg (fun g => e g.symm)
      have h2 : mkS (upd F k m) j = mkS F j := by unfold mkS; rw [h1]
      have h3 : j ∈ keysS (upd F k m) ↔ j ∈ keysS F := by rw [mem_keysS, mem_keysS, h1]
      rw [h2]
      by_cases g : j ∈ keysS F
      · rw [if_pos g, if_pos (h3.2 g)]
      · rw [if_neg g, if_neg (fun q => g (h3.1 q))]
  · have hn : ∀ j, ¬ key = [97 + j] := fun j e => hkey ⟨j, e⟩
    unfold canon
    rw [getS_other _ hn, getS_other _ hn, if_neg (fun e => hn k e.symm)]
theorem canon_of {F : Nat → Nat} {k : Nat} (hk : k < 26) : ofT (canon F) [97 + k] = (F k : Int) := by
  unfold ofT canon
  rw [getS_map]
  by_cases h : 0 < F k
  · rw [if_pos (mem_keysS.2 ⟨hk, h⟩)]; rfl
  · rw [if_neg (fun g => h (mem_keysS.1 g).2)]
    show (0 : Int) = _
    omega
theorem hasB {x y z : Nat} : has [x] [y] [z] ↔ x ≤ z ∧ z < y := by
  unfold has isSpan
  rw [lt11, lt11, lt11]
  constructor
  · rintro ⟨_, _, h1, h2⟩
    rcases h2 with h2 | h2
    · exact absurd h2 (by simp)
    · omega
  · rintro ⟨h1, h2⟩
    exact ⟨⟨by simp, by simp, .inr (by omega)⟩, ⟨by simp, by simp⟩, by omega, .inr h2⟩
def cntS (F : Nat → Nat) (k : Nat) : Nat := ((List.range k).filter fun k => decide (0 < F k)).length
def cntI (F : Nat → Nat) (a b k : Nat) : Nat := ((List.range k).filter fun k => decide (0 < F k ∧ a ≤ k ∧ k < b)).length
theorem canon_len (F : Nat → Nat) : (canon F).length = cntS F 26 := List.length_map ..
theorem canon_in (F : Nat → Nat) (a b : Nat) : (inT [97 + a] [97 + b] (canon F)).length = cntI F a b 26 := by
  unfold inT canon keysS cntI
  rw [List.filter_map, List.length_map, List.filter_filter]
  congr 1
  refine List.filter_congr fun k _ => ?_
  simp only [Function.comp]
  rw [Bool.eq_iff_iff, Bool.and_eq_true, decide_eq_true_eq, decide_eq_true_eq, decide_eq_true_eq]
  show has [97 + a] [97 + b] [97 + k] ∧ 0 < F k ↔ _
  rw [hasB]
  omega
theorem cntS_succ (F : Nat → Nat) (k : Nat) : cntS F (k + 1) = cntS F k + if 0 < F k then 1 else 0 := by
  unfold cntS
  rw [List.range_succ, List.filter_append, List.length_append]
  congr 1
  by_cases h : 0 < F k
  · rw [if_pos h, List.filter_cons_of_pos (by exact decide_eq_true h)]; rfl
  · rw [if_neg h, List.filter_cons_of_neg (by simpa using h)]; rfl
theorem cntI_succ (F : Nat → Nat) (a b k : Nat) : cntI F a b (k + 1) = cntI F a b k + if 0 < F k ∧ a ≤ k ∧ k < b then 1 else 0 := by
  unfold cntI
  rw [List.range_succ, List.filter_append, List.length_append]
  congr 1
  by_cases h : 0 < F k ∧ a ≤ k ∧ k < b
  · rw [if_pos h, List.filter_cons_of_pos (by exact decide_eq_true h)]; rfl
  · rw [if_neg h, List.filter_cons_of_neg (by simpa using h)]; rfl
theorem cntS_le (F : Nat → Nat) (k : Nat) : cntS F k ≤ k := Nat.le_trans (List.length_filter_le _ _) (by rw [List.length_range]; exact Nat.le_refl _)
theorem cntI_le (F : Nat → Nat) (a b k : Nat) : cntI F a b k ≤ k := Nat.le_trans (List.length_filter_le _ _) (by rw [List.length_range]; exact Nat.le_refl _)
/-- of each key, when it was noted last -/
def lastF (ks : List Nat) : Nat → Nat → Nat
  | 0 => fun _ => 0
  | i + 1 => upd (lastF ks i) (ks.getD i 0 % 26) (i + 1)
theorem lastF_le (ks : List Nat) : ∀ i k, lastF ks i k ≤ i
  | 0, _ => Nat.le_refl _
  | i + 1, k => by
    unfold lastF upd
    split
    · exact Nat.le_refl _
    · have := lastF_le ks i k; omega
def cellN (j : Nat) : List AV := [.int .i64 (j : Int)]
theorem cellN_rens (ρ : K → K) (l : List Nat) (F : Nat → Nat) : (l.map fun k => cellN (F k)).map (AV.rens ρ) = l.map fun k => cellN (F k) := by
  rw [List.map_map]
  refine List.map_congr_left fun j _ => ?_
  show [AV.ren ρ (.int .i64 (F j : Int))] = _
  rw [AV.ren]; rfl
theorem upd_rows (F : Nat → Nat) (k m n : Nat) : ((List.range n).map fun k => cellN (F k)).set k (cellN m) = (List.range n).map fun j => cellN (upd F k m j) := by
  refine List.ext_getElem? fun j => ?_
  rw [List.getElem?_set, List.getElem?_map, List.getElem?_map]
  by_cases h : k = j
  · subst h
    rw [if_pos rfl, List.length_map, List.length_range]
    by_cases hk : k < n
    · rw [if_pos hk, List.getElem?_range hk, Option.map_some]; unfold upd; rw [if_pos rfl]
    · rw [if_neg hk, List.getElem?_eq_none (by rw [List.length_range]; omega)]; rfl
  · rw [if_neg h]
    by_cases hj : j < n
    · rw [List.getElem?_range hj, Option.map_some, Option.map_some]; unfold upd; rw [if_neg (fun e => h e.symm)]
    · rw [List.getElem?_eq_none (by rw [List.length_range]; omega)]; rfl
def rowF (F : Nat → Nat) : List (List AV) := (List.range 26).map fun k => cellN (F k)
theorem rowF_rens (ρ : K → K) (F : Nat → Nat) : (rowF F).map (AV.rens ρ) = rowF F := cellN_rens ρ _ F
theorem rowF_len (F : Nat → Nat) : (rowF F).length = 26 := by unfold rowF; rw [List.length_map, List.length_range]
theorem rowF_get (F : Nat → Nat) {k : Nat} (h : k < 26) : (rowF F)[k]? = some [.int .i64 (F k : Int)] := by
  unfold rowF
  rw [List.getElem?_map, List.getElem?_range h]; rfl
theorem rowF_set (F : Nat → Nat) (k m : Nat) : (rowF F).set k [.int .i64 (m : Int)] = rowF (upd F k m) := upd_rows F k m 26
theorem rowF_zero (ks : List Nat) : rowF (lastF ks 0) = List.replicate 26 [.int .i64 0] := rfl
end Go.Proofs
/- token: the law of versions noted one by one, walked. -/

set_option linter.all false
set_option maxRecDepth 100000
namespace Go.Proofs
open Go Go.Ev
variable {H : Heap}

theorem f10_ok {v : AV} {ks : List Nat} (hA : Arr H 1 v (ks.map fun (k : Nat) => [AV.int .u8 (k : Int)])) (hks : ∀ k ∈ ks, k < 256) {a b : Nat} (ha : a < 256) (hb : b < 256) :
    FnOk Try.prog 10 [v, .int .u8 (a : Int), .int .u8 (b : Int)] H fun r G => r = .bool true ∧ G = H := by
  refine FnOk.assume fun hok => ?_
  refine FnOk.drop (R := fun r => r = .bool true) ?_ (by rintro v rfl ρ; rw [AV.ren])
  refine FnOk.of_WW Try.func10 rfl C10ok R10ok ET good_ET ?_
  have hlen := fun G => hA.len G
  simp only [List.length_map] at hlen
  have hren := hA.ren
  simp only [go_sem, C10, Nat.reduceAdd, Nat.reduceSub, Nat.reduceMul, Nat.reduceDiv, Nat.reduceMod, Nat.reduceEqDiff, Nat.reduceLeDiff, Nat.reduceLT, Int.reduceLT, Int.reduceLE, Int.reduceEq, Int.reduceToNat, reduceIte, reduceCtorEq, List.length_nil, List.map_nil, List.length_cons, List.map_cons, List.replicate_succ, List.replicate_zero, List.set_cons_zero, List.set_cons_succ, List.take_succ_cons, List.take_zero, List.take_nil, List.length_append, List.map_append, List.cons_append, List.nil_append, List.drop_succ_cons, List.drop_zero, List.append_nil, List.getElem?_cons_zero, List.getElem?_cons_succ, eq_self, true_implies, not_true_eq_false, not_false_eq_true, false_implies, and_true, true_and, decide_true, decide_false, Bool.not_true, Bool.not_false]
  refine CL.one f37_ok ?_
  simp only [go_sem, Nat.reduceAdd, Nat.reduceSub, Nat.reduceMul, Nat.reduceDiv, Nat.reduceMod, Nat.reduceEqDiff, Nat.reduceLeDiff, Nat.reduceLT, Int.reduceLT, Int.reduceLE, Int.reduceEq, Int.reduceToNat, reduceIte, reduceCtorEq, List.length_nil, List.map_nil, List.length_cons, List.map_cons, List.replicate_succ, List.replicate_zero, List.set_cons_zero, List.set_cons_succ, List.take_succ_cons, List.take_zero, List.take_nil, List.length_append, List.map_append, List.cons_append, List.nil_append, List.drop_succ_cons, List.drop_zero, List.append_nil, List.getElem?_cons_zero, List.getElem?_cons_succ, eq_self, true_implies, not_true_eq_false, not_false_eq_true, false_implies, and_true, true_and, decide_true, decide_false, Bool.not_true, Bool.not_false, hlen]
  refine ⟨fun h1 => ⟨_, rfl⟩, fun h1 => ?_⟩
  refine LL.st good_ET (fun i : Nat => ks.length - i) (fun i => i ≤ ks.length)
    (fun i => [(.z, v), ((.o .z), .int .u8 (a : Int)), ((.i .z), .int .u8 (b : Int)), ((.o (.o (.o .z))), outV (H.key 1) 2 (canon (lastF ks i)).length), ((.i (.o (.o .z))), .ptr (H.key 0) 0), ((.o (.i (.o .z))), .int .i64 i)])
    (fun i => [.row true 1 (rowF (lastF ks i)), outB 2 ((canon (lastF ks i)).map Sn.enc)]) ?_ 0 (σ := [0, 1]) ?_ (Nat.zero_le _)
  · rintro i hi
    by_cases hlt : i < ks.length
    · obtain ⟨kk, r, ex', cap', wr, rows, hv, hrho, hgo, hrow⟩ := hA.at hok (j := i) (by rw [List.length_map]; exact hlt)
      simp only [List.length_map, List.getElem_map] at hv hrow
      cases hv
      have hgd : ks.getD i 0 = ks[i] := by rw [List.getD_eq_getElem?_getD, List.getElem?_eq_getElem hlt]; rfl
      have hk256 := hks ks[i] (List.getElem_mem hlt)
      have hF : lastF ks (i + 1) = upd (lastF ks i) (ks[i] % 26) (i + 1) := by rw [lastF, hgd]
      generalize ks[i] = k at hrow hgd hk256 hF
      have hw := wrap_succ (n := i) (by omega)
      have hci : (i : Int) < (ks.length : Int) := by omega
      have hsi : i + 1 ≤ ks.length := by omega
      have hm : ((k : Int).tmod 26) = ((k % 26 : Nat) : Int) := rfl
      have hk26 : k % 26 < 26 := Nat.mod_lt _ (by decide)
      generalize k % 26 = j at *
      have hj0 : IntKind.i64.wrap (j : Int) = (j : Int) := wrap_i64 (by omega) (by omega)
      have hj1 : IntKind.i64.wrap (97 + (j : Int)) = ((97 + j : Nat) : Int) := by rw [wrap_i64 (by omega) (by omega)]; omega
      have hj2 := wrap_u8 (m := 97 + j) (by omega)
      have hj3 := fun c => bytesC_one (m := 97 + j) (by omega) R1.fail c
      have hj4 : j ≤ 25 := by omega
      simp only [go_sem, C10L0, Nat.reduceAdd, Nat.reduceSub, Nat.reduceMul, Nat.reduceDiv, Nat.reduceMod, Nat.reduceEqDiff, Nat.reduceLeDiff, Nat.reduceLT, Int.reduceLT, Int.reduceLE, Int.reduceEq, Int.reduceToNat, reduceIte, reduceCtorEq, List.length_nil, List.map_nil, List.length_cons, List.map_cons, List.replicate_succ, List.replicate_zero, List.set_cons_zero, List.set_cons_succ, List.take_succ_cons, List.take_zero, List.take_nil, List.length_append, List.map_append, List.cons_append, List.nil_append, List.drop_succ_cons, List.drop_zero, List.append_nil, List.getElem?_cons_zero, List.getElem?_cons_succ, eq_self, true_implies, not_true_eq_false, not_false_eq_true, false_implies, and_true, true_and, decide_true, decide_false, Bool.not_true, Bool.not_false, hlen, hci, hsi, hgo, hrow, hw, hm, hj0, hj1, hj2, hj3, hj4]
      have hle := lastF_le ks i
      have htok := canon_tok (F := lastF ks i) fun k => by have := hle k; omega
      have htok2 := canon_tok (F := lastF ks (i + 1)) fun k => by have := lastF_le ks (i + 1) k; omega
      have hlc := cntS_le (lastF ks i) 26
      have hput := canon_put (F := lastF ks i) (m := i + 1) hk26 (by omega)
      rw [← hF] at hput
      refine CL.of (f43_ok (arr_outV rfl (List.length_map ..)) (by rw [canon_len]; omega) ⟨[97 + j], ((i + 1 : Nat) : Int)⟩) ?_
      rintro _ _ ⟨rfl, rfl⟩
      rw [withT, if_pos htok, hput]
      have hset := rowF_set (lastF ks i) j (i + 1)
      rw [← hF] at hset
      have hgj := rowF_get (lastF ks i) hk26
      have hlc2 := cntS_le (lastF ks (i + 1)) 26
      simp only [go_sem, Nat.reduceAdd, Nat.reduceSub, Nat.reduceMul, Nat.reduceDiv, Nat.reduceMod, Nat.reduceEqDiff, Nat.reduceLeDiff, Nat.reduceLT, Int.reduceLT, Int.reduceLE, Int.reduceEq, Int.reduceToNat, reduceIte, reduceCtorEq, List.length_nil, List.map_nil, List.length_cons, List.map_cons, List.replicate_succ, List.replicate_zero, List.set_cons_zero, List.set_cons_succ, List.take_succ_cons, List.take_zero, List.take_nil, List.length_append, List.map_append, List.cons_append, List.nil_append, List.drop_succ_cons, List.drop_zero, List.append_nil, List.getElem?_cons_zero, List.getElem?_cons_succ, eq_self, true_implies, not_true_eq_false, not_false_eq_true, false_implies, and_true, true_and, decide_true, decide_false, Bool.not_true, Bool.not_false, hw, hj4, hset, hgj]
      refine CL.one (f39_ok (l := canon (lastF ks (i + 1))) (by exact arr_outV rfl (List.length_map ..)) (by rw [canon_len]; omega)) ?_
      rw [decide_eq_true htok2]
      simp only [go_sem, Nat.reduceAdd, Nat.reduceSub, Nat.reduceMul, Nat.reduceDiv, Nat.reduceMod, Nat.reduceEqDiff, Nat.reduceLeDiff, Nat.reduceLT, Int.reduceLT, Int.reduceLE, Int.reduceEq, Int.reduceToNat, reduceIte, reduceCtorEq, List.length_nil, List.map_nil, List.length_cons, List.map_cons, List.replicate_succ, List.replicate_zero, List.set_cons_zero, List.set_cons_succ, List.take_succ_cons, List.take_zero, List.take_nil, List.length_append, List.map_append, List.cons_append, List.nil_append, List.drop_succ_cons, List.drop_zero, List.append_nil, List.getElem?_cons_zero, List.getElem?_cons_succ, eq_self, true_implies, not_true_eq_false, not_false_eq_true, false_implies, and_true, true_and, decide_true, decide_false, Bool.not_true, Bool.not_false, hw, hj4]
      refine ⟨i + 1, by show ks.length - (i + 1) < ks.length - i; omega, ?_, _, [0, 3], rfl, Wk.of rfl (by decide) (by simp only [go_sem, outV_ren', hrho, List.length_nil, List.map_nil, List.length_cons, List.map_cons, List.replicate_succ, List.replicate_zero, List.set_cons_zero, List.set_cons_succ, List.take_succ_cons, List.take_zero, List.take_nil, List.length_append, List.map_append, List.cons_append, List.nil_append, List.drop_succ_cons, List.drop_zero, List.append_nil, List.getElem?_cons_zero, List.getElem?_cons_succ, Nat.reduceAdd, Nat.reduceSub, Nat.reduceMul, Nat.reduceDiv, Nat.reduceMod, Nat.reduceEqDiff, Nat.reduceLeDiff, Nat.reduceLT, Int.reduceLT, Int.reduceLE, Int.reduceEq, Int.reduceToNat, reduceIte, reduceCtorEq]) (by simp only [go_sem, ↓outB_ren', ↓zB_ren, Sn.map_rens, Sn.rens, rowF_rens, implies_true, List.length_nil, List.map_nil, List.length_cons, List.map_cons, List.replicate_succ, List.replicate_zero, List.set_cons_zero, List.set_cons_succ, List.take_succ_cons, List.take_zero, List.take_nil, List.length_append, List.map_append, List.cons_append, List.nil_append, List.drop_succ_cons, List.drop_zero, List.append_nil, List.getElem?_cons_zero, List.getElem?_cons_succ, Nat.reduceAdd, Nat.reduceSub, Nat.reduceMul, Nat.reduceDiv, Nat.reduceMod, Nat.reduceEqDiff, Nat.reduceLeDiff, Nat.reduceLT, Int.reduceLT, Int.reduceLE, Int.reduceEq, Int.reduceToNat, reduceIte, reduceCtorEq, eq_self, true_implies, not_true_eq_false, not_false_eq_true, false_implies, and_true, true_and, decide_true, decide_false, Bool.not_true, Bool.not_false])⟩
      show i + 1 ≤ ks.length
      omega
    · have hci : ¬ (i : Int) < (ks.length : Int) := by omega
      obtain rfl : i = ks.length := by omega
      have hle := lastF_le ks ks.length
      generalize lastF ks ks.length = F at *
      have hlc := cntS_le F 26
      have ha26 : a % 26 < 26 := Nat.mod_lt _ (by decide)
      have hb26 : b % 26 < 26 := Nat.mod_lt _ (by decide)
      have hma : ((a : Int).tmod 26) = ((a % 26 : Nat) : Int) := rfl
      have hmb : ((b : Int).tmod 26) = ((b % 26 : Nat) : Int) := rfl
      generalize a % 26 = x at ha26 hma
      generalize b % 26 = y at hb26 hmb
      have hx0 : IntKind.i64.wrap (x : Int) = (x : Int) := wrap_i64 (by omega) (by omega)
      have hx1 : IntKind.i64.wrap (97 + (x : Int)) = ((97 + x : Nat) : Int) := by rw [wrap_i64 (by omega) (by omega)]; omega
      have hx2 := wrap_u8 (m := 97 + x) (by omega)
      have hx3 := fun c => bytesC_one (m := 97 + x) (by omega) R1.fail c
      have hy0 : IntKind.i64.wrap (y : Int) = (y : Int) := wrap_i64 (by omega) (by omega)
      have hy1 : IntKind.i64.wrap (97 + (y : Int)) = ((97 + y : Nat) : Int) := by rw [wrap_i64 (by omega) (by omega)]; omega
      have hy2 := wrap_u8 (m := 97 + y) (by omega)
      have hy3 := fun c => bytesC_one (m := 97 + y) (by omega) R1.fail c
      simp only [go_sem, C10L0, Nat.reduceAdd, Nat.reduceSub, Nat.reduceMul, Nat.reduceDiv, Nat.reduceMod, Nat.reduceEqDiff, Nat.reduceLeDiff, Nat.reduceLT, Int.reduceLT, Int.reduceLE, Int.reduceEq, Int.reduceToNat, reduceIte, reduceCtorEq, List.length_nil, List.map_nil, List.length_cons, List.map_cons, List.replicate_succ, List.replicate_zero, List.set_cons_zero, List.set_cons_succ, List.take_succ_cons, List.take_zero, List.take_nil, List.length_append, List.map_append, List.cons_append, List.nil_append, List.drop_succ_cons, List.drop_zero, List.append_nil, List.getElem?_cons_zero, List.getElem?_cons_succ, eq_self, true_implies, not_true_eq_false, not_false_eq_true, false_implies, and_true, true_and, decide_true, decide_false, Bool.not_true, Bool.not_false, hlen, hci, hma, hmb, hx0, hx1, hx2, hx3, hy0, hy1, hy2, hy3]
      refine CL.of (f44_ok (l := canon F) (arr_outV rfl (List.length_map ..)) (by rw [canon_len]; omega) [97 + x] [97 + y]) ?_
      rintro _ _ ⟨rfl, rfl⟩
      simp only [go_sem, Nat.reduceAdd, Nat.reduceSub, Nat.reduceMul, Nat.reduceDiv, Nat.reduceMod, Nat.reduceEqDiff, Nat.reduceLeDiff, Nat.reduceLT, Int.reduceLT, Int.reduceLE, Int.reduceEq, Int.reduceToNat, reduceIte, reduceCtorEq, List.length_nil, List.map_nil, List.length_cons, List.map_cons, List.replicate_succ, List.replicate_zero, List.set_cons_zero, List.set_cons_succ, List.take_succ_cons, List.take_zero, List.take_nil, List.length_append, List.map_append, List.cons_append, List.nil_append, List.drop_succ_cons, List.drop_zero, List.append_nil, List.getElem?_cons_zero, List.getElem?_cons_succ, eq_self, true_implies, not_true_eq_false, not_false_eq_true, false_implies, and_true, true_and, decide_true, decide_false, Bool.not_true, Bool.not_false]
      refine LL.st good_ET (fun k : Nat => 26 - k) (fun k => k ≤ 26)
        (fun k => [((.o (.o (.o .z))), outV (H.key 1) 2 (canon F).length), ((.i (.o (.o .z))), .ptr (H.key 0) 0), ((.o (.o (.i .z))), .int .i64 x), ((.i (.o (.i .z))), .int .i64 y), ((.o (.i (.i .z))), outV (H.key 2) 2 (inT [97 + x] [97 + y] (canon F)).length), ((.i (.i (.i .z))), .int .i64 (cntI F x y k)), ((.o (.o (.o (.o .z)))), .int .i64 (cntS F k)), ((.i (.o (.o (.o .z)))), .int .i64 k)])
        (fun k => [.row true 1 (rowF F), outB 2 ((canon F).map Sn.enc), outB 2 ((inT [97 + x] [97 + y] (canon F)).map Sn.enc)]) ?_ 0 (σ := [0, 1, 4]) ?_ (Nat.zero_le _)
      · clear hi hlt hci
        rintro k hk
        by_cases hlt : k < 26
        · have hck : (k : Int) < 26 := by omega
          have hj1 : IntKind.i64.wrap (97 + (k : Int)) = ((97 + k : Nat) : Int) := by rw [wrap_i64 (by omega) (by omega)]; omega
          have hj2 := wrap_u8 (m := 97 + k) (by omega)
          have hj3 := fun c => bytesC_one (m := 97 + k) (by omega) R1.fail c
          have hj4 : k ≤ 25 := by omega
          have hgk := rowF_get F hlt
          have hw := wrap_succ (n := k) (by omega)
          have hcs := cntS_le F k
          have hcc := cntI_le F x y k
          have hw1 := wrap_succ (n := cntS F k) (by omega)
          have hw2 := wrap_succ (n := cntI F x y k) (by omega)
          have hns := cntS_succ F k
          have hni := cntI_succ F x y k
          have he : ∀ L : List Blk, L[1]? = some (outB 2 ((canon F).map Sn.enc)) → ET 42 [outV (H.key 1) 2 (canon F).length, .str [97 + k]] (H.ext L) = .ok (.int .i64 (F k : Int)) (H.ext L) := fun L h => by
            rw [e42 (arr_outV h (List.length_map ..)) (by rw [canon_len]; omega), canon_of hlt]
          simp only [go_sem, C10L1, Nat.reduceAdd, Nat.reduceSub, Nat.reduceMul, Nat.reduceDiv, Nat.reduceMod, Nat.reduceEqDiff, Nat.reduceLeDiff, Nat.reduceLT, Int.reduceLT, Int.reduceLE, Int.reduceEq, Int.reduceToNat, reduceIte, reduceCtorEq, List.length_nil, List.map_nil, List.length_cons, List.map_cons, List.replicate_succ, List.replicate_zero, List.set_cons_zero, List.set_cons_succ, List.take_succ_cons, List.take_zero, List.take_nil, List.length_append, List.map_append, List.cons_append, List.nil_append, List.drop_succ_cons, List.drop_zero, List.append_nil, List.getElem?_cons_zero, List.getElem?_cons_succ, eq_self, true_implies, not_true_eq_false, not_false_eq_true, false_implies, and_true, true_and, decide_true, decide_false, Bool.not_true, Bool.not_false, hck, hj1, hj2, hj3, hj4, hgk, he]
          refine ⟨fun g1 => ⟨fun g2 => ⟨fun g3 => ?_, fun g3 => ?_⟩, fun g2 => ?_⟩, fun g1 => ?_⟩
          · have hns' : cntS F (k + 1) = cntS F k + 1 := by rw [hns, if_pos (by omega)]
            have hni' : cntI F x y (k + 1) = cntI F x y k + 1 := by rw [hni, if_pos ⟨by omega, by omega, by omega⟩]
            exact ⟨k + 1, by show 26 - (k + 1) < 26 - k; omega, by show k + 1 ≤ 26; omega, _, [0, 1, 2], rfl, Wk.of rfl (by decide) (by simp only [go_sem, outV_ren', hw, hw1, hw2, hns', hni', Nat.add_zero, List.length_nil, List.map_nil, List.length_cons, List.map_cons, List.replicate_succ, List.replicate_zero, List.set_cons_zero, List.set_cons_succ, List.take_succ_cons, List.take_zero, List.take_nil, List.length_append, List.map_append, List.cons_append, List.nil_append, List.drop_succ_cons, List.drop_zero, List.append_nil, List.getElem?_cons_zero, List.getElem?_cons_succ, Nat.reduceAdd, Nat.reduceSub, Nat.reduceMul, Nat.reduceDiv, Nat.reduceMod, Nat.reduceEqDiff, Nat.reduceLeDiff, Nat.reduceLT, Int.reduceLT, Int.reduceLE, Int.reduceEq, Int.reduceToNat, reduceIte, reduceCtorEq]) (by simp only [go_sem, ↓outB_ren', ↓zB_ren, Sn.map_rens, Sn.rens, rowF_rens, implies_true, List.length_nil, List.map_nil, List.length_cons, List.map_cons, List.replicate_succ, List.replicate_zero, List.set_cons_zero, List.set_cons_succ, List.take_succ_cons, List.take_zero, List.take_nil, List.length_append, List.map_append, List.cons_append, List.nil_append, List.drop_succ_cons, List.drop_zero, List.append_nil, List.getElem?_cons_zero, List.getElem?_cons_succ, Nat.reduceAdd, Nat.reduceSub, Nat.reduceMul, Nat.reduceDiv, Nat.reduceMod, Nat.reduceEqDiff, Nat.reduceLeDiff, Nat.reduceLT, Int.reduceLT, Int.reduceLE, Int.reduceEq, Int.reduceToNat, reduceIte, reduceCtorEq, eq_self, true_implies, not_true_eq_false, not_false_eq_true, false_implies, and_true, true_and, decide_true, decide_false, Bool.not_true, Bool.not_false])⟩
          · have hns' : cntS F (k + 1) = cntS F k + 1 := by rw [hns, if_pos (by omega)]
            have hni' : cntI F x y (k + 1) = cntI F x y k := by rw [hni, if_neg (fun g => g3 (by omega)), Nat.add_zero]
            exact ⟨k + 1, by show 26 - (k + 1) < 26 - k; omega, by show k + 1 ≤ 26; omega, _, [0, 1, 2], rfl, Wk.of rfl (by decide) (by simp only [go_sem, outV_ren', hw, hw1, hw2, hns', hni', Nat.add_zero, List.length_nil, List.map_nil, List.length_cons, List.map_cons, List.replicate_succ, List.replicate_zero, List.set_cons_zero, List.set_cons_succ, List.take_succ_cons, List.take_zero, List.take_nil, List.length_append, List.map_append, List.cons_append, List.nil_append, List.drop_succ_cons, List.drop_zero, List.append_nil, List.getElem?_cons_zero, List.getElem?_cons_succ, Nat.reduceAdd, Nat.reduceSub, Nat.reduceMul, Nat.reduceDiv, Nat.reduceMod, Nat.reduceEqDiff, Nat.reduceLeDiff, Nat.reduceLT, Int.reduceLT, Int.reduceLE, Int.reduceEq, Int.reduceToNat, reduceIte, reduceCtorEq]) (by simp only [go_sem, ↓outB_ren', ↓zB_ren, Sn.map_rens, Sn.rens, rowF_rens, implies_true, List.length_nil, List.map_nil, List.length_cons, List.map_cons, List.replicate_succ, List.replicate_zero, List.set_cons_zero, List.set_cons_succ, List.take_succ_cons, List.take_zero, List.take_nil, List.length_append, List.map_append, List.cons_append, List.nil_append, List.drop_succ_cons, List.drop_zero, List.append_nil, List.getElem?_cons_zero, List.getElem?_cons_succ, Nat.reduceAdd, Nat.reduceSub, Nat.reduceMul, Nat.reduceDiv, Nat.reduceMod, Nat.reduceEqDiff, Nat.reduceLeDiff, Nat.reduceLT, Int.reduceLT, Int.reduceLE, Int.reduceEq, Int.reduceToNat, reduceIte, reduceCtorEq, eq_self, true_implies, not_true_eq_false, not_false_eq_true, false_implies, and_true, true_and, decide_true, decide_false, Bool.not_true, Bool.not_false])⟩
          · have hns' : cntS F (k + 1) = cntS F k + 1 := by rw [hns, if_pos (by omega)]
            have hni' : cntI F x y (k + 1) = cntI F x y k := by rw [hni, if_neg (fun g => g2 (by omega)), Nat.add_zero]
            exact ⟨k + 1, by show 26 - (k + 1) < 26 - k; omega, by show k + 1 ≤ 26; omega, _, [0, 1, 2], rfl, Wk.of rfl (by decide) (by simp only [go_sem, outV_ren', hw, hw1, hw2, hns', hni', Nat.add_zero, List.length_nil, List.map_nil, List.length_cons, List.map_cons, List.replicate_succ, List.replicate_zero, List.set_cons_zero, List.set_cons_succ, List.take_succ_cons, List.take_zero, List.take_nil, List.length_append, List.map_append, List.cons_append, List.nil_append, List.drop_succ_cons, List.drop_zero, List.append_nil, List.getElem?_cons_zero, List.getElem?_cons_succ, Nat.reduceAdd, Nat.reduceSub, Nat.reduceMul, Nat.reduceDiv, Nat.reduceMod, Nat.reduceEqDiff, Nat.reduceLeDiff, Nat.reduceLT, Int.reduceLT, Int.reduceLE, Int.reduceEq, Int.reduceToNat, reduceIte, reduceCtorEq]) (by simp only [go_sem, ↓outB_ren', ↓zB_ren, Sn.map_rens, Sn.rens, rowF_rens, implies_true, List.length_nil, List.map_nil, List.length_cons, List.map_cons, List.replicate_succ, List.replicate_zero, List.set_cons_zero, List.set_cons_succ, List.take_succ_cons, List.take_zero, List.take_nil, List.length_append, List.map_append, List.cons_append, List.nil_append, List.drop_succ_cons, List.drop_zero, List.append_nil, List.getElem?_cons_zero, List.getElem?_cons_succ, Nat.reduceAdd, Nat.reduceSub, Nat.reduceMul, Nat.reduceDiv, Nat.reduceMod, Nat.reduceEqDiff, Nat.reduceLeDiff, Nat.reduceLT, Int.reduceLT, Int.reduceLE, Int.reduceEq, Int.reduceToNat, reduceIte, reduceCtorEq, eq_self, true_implies, not_true_eq_false, not_false_eq_true, false_implies, and_true, true_and, decide_true, decide_false, Bool.not_true, Bool.not_false])⟩
          · have hns' : cntS F (k + 1) = cntS F k := by rw [hns, if_neg (fun g => g1 (by omega)), Nat.add_zero]
            have hni' : cntI F x y (k + 1) = cntI F x y k := by rw [hni, if_neg (fun g => g1 (by omega)), Nat.add_zero]
            exact ⟨k + 1, by show 26 - (k + 1) < 26 - k; omega, by show k + 1 ≤ 26; omega, _, [0, 1, 2], rfl, Wk.of rfl (by decide) (by simp only [go_sem, outV_ren', hw, hw1, hw2, hns', hni', Nat.add_zero, List.length_nil, List.map_nil, List.length_cons, List.map_cons, List.replicate_succ, List.replicate_zero, List.set_cons_zero, List.set_cons_succ, List.take_succ_cons, List.take_zero, List.take_nil, List.length_append, List.map_append, List.cons_append, List.nil_append, List.drop_succ_cons, List.drop_zero, List.append_nil, List.getElem?_cons_zero, List.getElem?_cons_succ, Nat.reduceAdd, Nat.reduceSub, Nat.reduceMul, Nat.reduceDiv, Nat.reduceMod, Nat.reduceEqDiff, Nat.reduceLeDiff, Nat.reduceLT, Int.reduceLT, Int.reduceLE, Int.reduceEq, Int.reduceToNat, reduceIte, reduceCtorEq]) (by simp only [go_sem, ↓outB_ren', ↓zB_ren, Sn.map_rens, Sn.rens, rowF_rens, implies_true, List.length_nil, List.map_nil, List.length_cons, List.map_cons, List.replicate_succ, List.replicate_zero, List.set_cons_zero, List.set_cons_succ, List.take_succ_cons, List.take_zero, List.take_nil, List.length_append, List.map_append, List.cons_append, List.nil_append, List.drop_succ_cons, List.drop_zero, List.append_nil, List.getElem?_cons_zero, List.getElem?_cons_succ, Nat.reduceAdd, Nat.reduceSub, Nat.reduceMul, Nat.reduceDiv, Nat.reduceMod, Nat.reduceEqDiff, Nat.reduceLeDiff, Nat.reduceLT, Int.reduceLT, Int.reduceLE, Int.reduceEq, Int.reduceToNat, reduceIte, reduceCtorEq, eq_self, true_implies, not_true_eq_false, not_false_eq_true, false_implies, and_true, true_and, decide_true, decide_false, Bool.not_true, Bool.not_false])⟩
        · have hck : ¬ (k : Int) < 26 := by omega
          obtain rfl : k = 26 := by omega
          have hl1 := canon_len F
          have hl2 := canon_in F x y
          simp only [go_sem, C10L1, Nat.reduceAdd, Nat.reduceSub, Nat.reduceMul, Nat.reduceDiv, Nat.reduceMod, Nat.reduceEqDiff, Nat.reduceLeDiff, Nat.reduceLT, Int.reduceLT, Int.reduceLE, Int.reduceEq, Int.reduceToNat, reduceIte, reduceCtorEq, List.length_nil, List.map_nil, List.length_cons, List.map_cons, List.replicate_succ, List.replicate_zero, List.set_cons_zero, List.set_cons_succ, List.take_succ_cons, List.take_zero, List.take_nil, List.length_append, List.map_append, List.cons_append, List.nil_append, List.drop_succ_cons, List.drop_zero, List.append_nil, List.getElem?_cons_zero, List.getElem?_cons_succ, eq_self, true_implies, not_true_eq_false, not_false_eq_true, false_implies, and_true, true_and, decide_true, decide_false, Bool.not_true, Bool.not_false, hck, hl1, hl2]
          exact ⟨_, rfl⟩
      · exact Wk.of rfl (by decide) (by simp only [go_sem, outV_ren', hren, List.length_nil, List.map_nil, List.length_cons, List.map_cons, List.replicate_succ, List.replicate_zero, List.set_cons_zero, List.set_cons_succ, List.take_succ_cons, List.take_zero, List.take_nil, List.length_append, List.map_append, List.cons_append, List.nil_append, List.drop_succ_cons, List.drop_zero, List.append_nil, List.getElem?_cons_zero, List.getElem?_cons_succ, Nat.reduceAdd, Nat.reduceSub, Nat.reduceMul, Nat.reduceDiv, Nat.reduceMod, Nat.reduceEqDiff, Nat.reduceLeDiff, Nat.reduceLT, Int.reduceLT, Int.reduceLE, Int.reduceEq, Int.reduceToNat, reduceIte, reduceCtorEq]; exact ⟨rfl, rfl⟩) (by simp only [go_sem, ↓outB_ren', ↓zB_ren, Sn.map_rens, Sn.rens, rowF_rens, implies_true, List.length_nil, List.map_nil, List.length_cons, List.map_cons, List.replicate_succ, List.replicate_zero, List.set_cons_zero, List.set_cons_succ, List.take_succ_cons, List.take_zero, List.take_nil, List.length_append, List.map_append, List.cons_append, List.nil_append, List.drop_succ_cons, List.drop_zero, List.append_nil, List.getElem?_cons_zero, List.getElem?_cons_succ, Nat.reduceAdd, Nat.reduceSub, Nat.reduceMul, Nat.reduceDiv, Nat.reduceMod, Nat.reduceEqDiff, Nat.reduceLeDiff, Nat.reduceLT, Int.reduceLT, Int.reduceLE, Int.reduceEq, Int.reduceToNat, reduceIte, reduceCtorEq, eq_self, true_implies, not_true_eq_false, not_false_eq_true, false_implies, and_true, true_and, decide_true, decide_false, Bool.not_true, Bool.not_false])
  · exact Wk.of rfl (by decide) (by simp only [go_sem, hren, List.length_nil, List.map_nil, List.length_cons, List.map_cons, List.replicate_succ, List.replicate_zero, List.set_cons_zero, List.set_cons_succ, List.take_succ_cons, List.take_zero, List.take_nil, List.length_append, List.map_append, List.cons_append, List.nil_append, List.drop_succ_cons, List.drop_zero, List.append_nil, List.getElem?_cons_zero, List.getElem?_cons_succ, Nat.reduceAdd, Nat.reduceSub, Nat.reduceMul, Nat.reduceDiv, Nat.reduceMod, Nat.reduceEqDiff, Nat.reduceLeDiff, Nat.reduceLT, Int.reduceLT, Int.reduceLE, Int.reduceEq, Int.reduceToNat, reduceIte, reduceCtorEq]; rfl) (by simp only [go_sem, ↓outB_ren', ↓zB_ren, Sn.map_rens, Sn.rens, rowF_rens, implies_true, List.length_nil, List.map_nil, List.length_cons, List.map_cons, List.replicate_succ, List.replicate_zero, List.set_cons_zero, List.set_cons_succ, List.take_succ_cons, List.take_zero, List.take_nil, List.length_append, List.map_append, List.cons_append, List.nil_append, List.drop_succ_cons, List.drop_zero, List.append_nil, List.getElem?_cons_zero, List.getElem?_cons_succ, Nat.reduceAdd, Nat.reduceSub, Nat.reduceMul, Nat.reduceDiv, Nat.reduceMod, Nat.reduceEqDiff, Nat.reduceLeDiff, Nat.reduceLT, Int.reduceLT, Int.reduceLE, Int.reduceEq, Int.reduceToNat, reduceIte, reduceCtorEq, eq_self, true_implies, not_true_eq_false, not_false_eq_true, false_implies, and_true, true_and, decide_true, decide_false, Bool.not_true, Bool.not_false]; exact ⟨congrArg some (congrArg _ (rowF_zero ks).symm), fun h => h.elim⟩)
end Go.Proofs
