/- token: what is known of it, the law of the best of two: walked. -/
import Derived.Test.YtiadcabmonbgiaaZ11
import Derived.ProofKit
import Derived.Deep.Slices
import Derived.Test.YtiadcabmonbgiaaProg
import Derived.Test.YtiadcabmonbgiaaRows
set_option linter.all false
set_option maxRecDepth 100000
namespace Go.Proofs
open Go Go.Ev
variable {H : Heap}

theorem tok1 (k : List Nat) (n : Int) : isTok [⟨k, n⟩] ↔ okS ⟨k, n⟩ := by rw [tok_iff]; simp
theorem tok2 (k k' : List Nat) (n n' : Int) : isTok [⟨k, n⟩, ⟨k', n'⟩] ↔ (okS ⟨k, n⟩ ∧ okS ⟨k', n'⟩) ∧ ltS k k' := by rw [tok_iff]; simp
theorem okS_one (a : Nat) {n : Int} (h1 : 0 ≤ n) (h2 : n ≤ 1000000000000) : okS ⟨[a], n⟩ := ⟨⟨by simp, by show ((1 : Nat) : Int) ≤ 8; decide⟩, h1, h2⟩
theorem lt11 {x y : Nat} : ltS [x] [y] ↔ x < y := by
  rw [ltS_cons]
  exact ⟨fun h => h.elim id fun h => absurd h.2 (ltS_irrefl _), .inl⟩
theorem isTok_nil : isTok [] := fun j hj => absurd hj (Nat.not_lt_zero _)
theorem kT1 : withT [] ⟨[98], 3⟩ = [⟨[98], 3⟩] := by rw [withT, if_pos isTok_nil]; rfl
theorem kT2 : withT [⟨[98], 3⟩] ⟨[97], 1⟩ = [⟨[97], 1⟩, ⟨[98], 3⟩] := by
  rw [withT, if_pos ((tok1 _ _).2 (okS_one _ (by decide) (by decide))), putT, putG, if_neg (by rw [lt11]; decide), if_neg (by simp)]
theorem kTl : isTok [⟨[97], 1⟩, ⟨[98], 3⟩] := (tok2 _ _ _ _).2 ⟨⟨okS_one _ (by decide) (by decide), okS_one _ (by decide) (by decide)⟩, lt11.2 (by decide)⟩
theorem kT3 : bestT [⟨[97], 1⟩, ⟨[98], 3⟩] [⟨[97], 2⟩] = [⟨[97], 2⟩, ⟨[98], 3⟩] := by
  rw [bestT, if_pos ⟨kTl, (tok1 _ _).2 (okS_one _ (by decide) (by decide))⟩, bestP, List.foldl_cons, List.foldl_nil, putG, if_neg (by rw [lt11]; decide), if_pos rfl]; rfl
theorem kT4 : inT [98] [] [⟨[97], 1⟩, ⟨[98], 3⟩] = [⟨[98], 3⟩] := by
  unfold inT
  rw [List.filter_cons_of_neg, List.filter_cons_of_pos, List.filter_nil]
  · exact decide_eq_true ⟨⟨by decide, by decide, .inl rfl⟩, ⟨by simp, by decide⟩, ltS_irrefl _, .inl rfl⟩
  · rw [decide_eq_true_eq]
    exact fun h => h.2.2.1 (lt11.2 (by decide))
theorem kT5 : ¬ isTok [⟨[98], 0⟩, ⟨[97], 0⟩] := fun h => by have := lt11.1 ((tok2 _ _ _ _).1 h).2; omega
theorem kO1 : ofT [⟨[97], 1⟩, ⟨[98], 3⟩] [98] = 3 := by rw [ofT, getS, if_neg (by simp), getS, if_pos rfl]
theorem kO2 : ofT [⟨[97], 1⟩, ⟨[98], 3⟩] [99] = 0 := by rw [ofT, getS, if_neg (by simp), getS, if_neg (by simp)]; rfl
theorem f37_ok : FnOk Try.prog 37 [] H fun r G => r = .bool true ∧ G = H := by
  refine FnOk.drop (R := fun r => r = .bool true) ?_ (by rintro v rfl ρ; rw [AV.ren])
  refine FnOk.of_WW Try.func37 rfl C37ok R37ok E0 good_E0 ?_
  simp only [go_sem, C37, Nat.reduceAdd, Nat.reduceSub, Nat.reduceMul, Nat.reduceDiv, Nat.reduceMod, Nat.reduceEqDiff, Nat.reduceLeDiff, Nat.reduceLT, Int.reduceLT, Int.reduceLE, Int.reduceEq, Int.reduceToNat, reduceIte, reduceCtorEq, List.length_nil, List.map_nil, List.length_cons, List.map_cons, List.replicate_succ, List.replicate_zero, List.set_cons_zero, List.set_cons_succ, List.take_succ_cons, List.take_zero, List.take_nil, List.length_append, List.map_append, List.cons_append, List.nil_append, List.drop_succ_cons, List.drop_zero, List.append_nil, List.getElem?_cons_zero, List.getElem?_cons_succ, eq_self, true_implies, not_true_eq_false, not_false_eq_true, false_implies, and_true, true_and, decide_true, decide_false, Bool.not_true, Bool.not_false]
  refine CL.of (f43_ok (l := []) (.inl ⟨rfl, rfl⟩) (by decide) ⟨[98], 3⟩) ?_
  rintro _ _ ⟨rfl, rfl⟩
  simp only [go_sem, Nat.reduceAdd, Nat.reduceSub, Nat.reduceMul, Nat.reduceDiv, Nat.reduceMod, Nat.reduceEqDiff, Nat.reduceLeDiff, Nat.reduceLT, Int.reduceLT, Int.reduceLE, Int.reduceEq, Int.reduceToNat, reduceIte, reduceCtorEq, List.length_nil, List.map_nil, List.length_cons, List.map_cons, List.replicate_succ, List.replicate_zero, List.set_cons_zero, List.set_cons_succ, List.take_succ_cons, List.take_zero, List.take_nil, List.length_append, List.map_append, List.cons_append, List.nil_append, List.drop_succ_cons, List.drop_zero, List.append_nil, List.getElem?_cons_zero, List.getElem?_cons_succ, eq_self, true_implies, not_true_eq_false, not_false_eq_true, false_implies, and_true, true_and, decide_true, decide_false, Bool.not_true, Bool.not_false, kT1, kT2, kT3, kT4, kO1, kO2, Sn.enc, zV, zB, List.cons.injEq, Int.reduceToNat]
  refine CL.of (f43_ok (l := [⟨[98], 3⟩]) (arr_row rfl rfl) (by decide) ⟨[97], 1⟩) ?_
  rintro _ _ ⟨rfl, rfl⟩
  simp only [go_sem, Nat.reduceAdd, Nat.reduceSub, Nat.reduceMul, Nat.reduceDiv, Nat.reduceMod, Nat.reduceEqDiff, Nat.reduceLeDiff, Nat.reduceLT, Int.reduceLT, Int.reduceLE, Int.reduceEq, Int.reduceToNat, reduceIte, reduceCtorEq, List.length_nil, List.map_nil, List.length_cons, List.map_cons, List.replicate_succ, List.replicate_zero, List.set_cons_zero, List.set_cons_succ, List.take_succ_cons, List.take_zero, List.take_nil, List.length_append, List.map_append, List.cons_append, List.nil_append, List.drop_succ_cons, List.drop_zero, List.append_nil, List.getElem?_cons_zero, List.getElem?_cons_succ, eq_self, true_implies, not_true_eq_false, not_false_eq_true, false_implies, and_true, true_and, decide_true, decide_false, Bool.not_true, Bool.not_false, kT1, kT2, kT3, kT4, kO1, kO2, Sn.enc, zV, zB, List.cons.injEq, Int.reduceToNat]
  refine CL.of (f40_ok (a := [⟨[97], 1⟩, ⟨[98], 3⟩]) (l := [⟨[97], 2⟩]) (arr_row rfl rfl) (arr_row rfl rfl) (by decide) (by decide)) ?_
  rintro _ _ ⟨z, rfl, rfl⟩
  simp only [go_sem, Nat.reduceAdd, Nat.reduceSub, Nat.reduceMul, Nat.reduceDiv, Nat.reduceMod, Nat.reduceEqDiff, Nat.reduceLeDiff, Nat.reduceLT, Int.reduceLT, Int.reduceLE, Int.reduceEq, Int.reduceToNat, reduceIte, reduceCtorEq, List.length_nil, List.map_nil, List.length_cons, List.map_cons, List.replicate_succ, List.replicate_zero, List.set_cons_zero, List.set_cons_succ, List.take_succ_cons, List.take_zero, List.take_nil, List.length_append, List.map_append, List.cons_append, List.nil_append, List.drop_succ_cons, List.drop_zero, List.append_nil, List.getElem?_cons_zero, List.getElem?_cons_succ, eq_self, true_implies, not_true_eq_false, not_false_eq_true, false_implies, and_true, true_and, decide_true, decide_false, Bool.not_true, Bool.not_false, kT1, kT2, kT3, kT4, kO1, kO2, Sn.enc, zV, zB, List.cons.injEq, Int.reduceToNat]
  refine CL.one (f39_ok (l := [⟨[97], 1⟩, ⟨[98], 3⟩]) (arr_row rfl rfl) (by decide)) ?_
  rw [decide_eq_true kTl]
  simp only [go_sem, Nat.reduceAdd, Nat.reduceSub, Nat.reduceMul, Nat.reduceDiv, Nat.reduceMod, Nat.reduceEqDiff, Nat.reduceLeDiff, Nat.reduceLT, Int.reduceLT, Int.reduceLE, Int.reduceEq, Int.reduceToNat, reduceIte, reduceCtorEq, List.length_nil, List.map_nil, List.length_cons, List.map_cons, List.replicate_succ, List.replicate_zero, List.set_cons_zero, List.set_cons_succ, List.take_succ_cons, List.take_zero, List.take_nil, List.length_append, List.map_append, List.cons_append, List.nil_append, List.drop_succ_cons, List.drop_zero, List.append_nil, List.getElem?_cons_zero, List.getElem?_cons_succ, eq_self, true_implies, not_true_eq_false, not_false_eq_true, false_implies, and_true, true_and, decide_true, decide_false, Bool.not_true, Bool.not_false, kT1, kT2, kT3, kT4, kO1, kO2, Sn.enc, zV, zB, List.cons.injEq, Int.reduceToNat]
  refine CL.one (f42_ok (l := [⟨[97], 1⟩, ⟨[98], 3⟩]) (arr_row rfl rfl) (by decide) [98]) ?_
  simp only [go_sem, Nat.reduceAdd, Nat.reduceSub, Nat.reduceMul, Nat.reduceDiv, Nat.reduceMod, Nat.reduceEqDiff, Nat.reduceLeDiff, Nat.reduceLT, Int.reduceLT, Int.reduceLE, Int.reduceEq, Int.reduceToNat, reduceIte, reduceCtorEq, List.length_nil, List.map_nil, List.length_cons, List.map_cons, List.replicate_succ, List.replicate_zero, List.set_cons_zero, List.set_cons_succ, List.take_succ_cons, List.take_zero, List.take_nil, List.length_append, List.map_append, List.cons_append, List.nil_append, List.drop_succ_cons, List.drop_zero, List.append_nil, List.getElem?_cons_zero, List.getElem?_cons_succ, eq_self, true_implies, not_true_eq_false, not_false_eq_true, false_implies, and_true, true_and, decide_true, decide_false, Bool.not_true, Bool.not_false, kT1, kT2, kT3, kT4, kO1, kO2, Sn.enc, zV, zB, List.cons.injEq, Int.reduceToNat]
  refine CL.one (f42_ok (l := [⟨[97], 1⟩, ⟨[98], 3⟩]) (arr_row rfl rfl) (by decide) [99]) ?_
  simp only [go_sem, Nat.reduceAdd, Nat.reduceSub, Nat.reduceMul, Nat.reduceDiv, Nat.reduceMod, Nat.reduceEqDiff, Nat.reduceLeDiff, Nat.reduceLT, Int.reduceLT, Int.reduceLE, Int.reduceEq, Int.reduceToNat, reduceIte, reduceCtorEq, List.length_nil, List.map_nil, List.length_cons, List.map_cons, List.replicate_succ, List.replicate_zero, List.set_cons_zero, List.set_cons_succ, List.take_succ_cons, List.take_zero, List.take_nil, List.length_append, List.map_append, List.cons_append, List.nil_append, List.drop_succ_cons, List.drop_zero, List.append_nil, List.getElem?_cons_zero, List.getElem?_cons_succ, eq_self, true_implies, not_true_eq_false, not_false_eq_true, false_implies, and_true, true_and, decide_true, decide_false, Bool.not_true, Bool.not_false, kT1, kT2, kT3, kT4, kO1, kO2, Sn.enc, zV, zB, List.cons.injEq, Int.reduceToNat]
  refine CL.of (f44_ok (l := [⟨[97], 1⟩, ⟨[98], 3⟩]) (arr_row rfl rfl) (by decide) [98] []) ?_
  rintro _ _ ⟨rfl, rfl⟩
  simp only [go_sem, Nat.reduceAdd, Nat.reduceSub, Nat.reduceMul, Nat.reduceDiv, Nat.reduceMod, Nat.reduceEqDiff, Nat.reduceLeDiff, Nat.reduceLT, Int.reduceLT, Int.reduceLE, Int.reduceEq, Int.reduceToNat, reduceIte, reduceCtorEq, List.length_nil, List.map_nil, List.length_cons, List.map_cons, List.replicate_succ, List.replicate_zero, List.set_cons_zero, List.set_cons_succ, List.take_succ_cons, List.take_zero, List.take_nil, List.length_append, List.map_append, List.cons_append, List.nil_append, List.drop_succ_cons, List.drop_zero, List.append_nil, List.getElem?_cons_zero, List.getElem?_cons_succ, eq_self, true_implies, not_true_eq_false, not_false_eq_true, false_implies, and_true, true_and, decide_true, decide_false, Bool.not_true, Bool.not_false, kT1, kT2, kT3, kT4, kO1, kO2, Sn.enc, zV, zB, List.cons.injEq, Int.reduceToNat]
  refine CL.one (f39_ok (l := [⟨[98], 0⟩, ⟨[97], 0⟩]) (arr_row rfl rfl) (by decide)) ?_
  rw [decide_eq_false kT5]
  simp only [go_sem, Nat.reduceAdd, Nat.reduceSub, Nat.reduceMul, Nat.reduceDiv, Nat.reduceMod, Nat.reduceEqDiff, Nat.reduceLeDiff, Nat.reduceLT, Int.reduceLT, Int.reduceLE, Int.reduceEq, Int.reduceToNat, reduceIte, reduceCtorEq, List.length_nil, List.map_nil, List.length_cons, List.map_cons, List.replicate_succ, List.replicate_zero, List.set_cons_zero, List.set_cons_succ, List.take_succ_cons, List.take_zero, List.take_nil, List.length_append, List.map_append, List.cons_append, List.nil_append, List.drop_succ_cons, List.drop_zero, List.append_nil, List.getElem?_cons_zero, List.getElem?_cons_succ, eq_self, true_implies, not_true_eq_false, not_false_eq_true, false_implies, and_true, true_and, decide_true, decide_false, Bool.not_true, Bool.not_false, kT1, kT2, kT3, kT4, kO1, kO2, Sn.enc, zV, zB, List.cons.injEq, Int.reduceToNat]
  exact ⟨_, rfl⟩
noncomputable def both (o p : Option Sn) : Option Sn := match o, p with
  | none, p => p
  | some c, none => some c
  | some c, some d => some (maxF c d)
theorem getS_best : ∀ {b a : List Sn}, up a → up b → ∀ k, getS (bestP a b) k = both (getS a k) (getS b k)
  | [], a, _, _, k => by show getS a k = both (getS a k) none; cases getS a k <;> rfl
  | x :: b, a, ha, hb, k => by
    obtain ⟨h1, h2⟩ := up_cons.1 hb
    show getS (bestP (putG maxF a x) b) k = _
    rw [getS_best (putG_up maxF_key ha) h2, getS_put maxF_key ha, getS]
    by_cases e : x.key = k
    · rw [if_pos e, if_pos e, getS_none (l := b) fun c hc g => by have := h1 c hc; rw [g, ← e] at this; exact ltS_irrefl _ this]
      cases getS a k <;> rfl
    · rw [if_neg e, if_neg e]
theorem bestP_ok : ∀ {b a : List Sn}, (∀ c ∈ a, okS c) → (∀ c ∈ b, okS c) → ∀ c ∈ bestP a b, okS c
  | [], a, ha, _, c, hc => ha c hc
  | x :: b, a, ha, hb, c, hc => by
    refine bestP_ok (b := b) (a := putG maxF a x) (fun c hc => ?_) (fun c hc => hb c (by simp [hc])) c hc
    have hx := hb x (by simp)
    rcases mem_putG hc with rfl | hc | ⟨d, hd, hk, rfl⟩
    · exact hx
    · exact ha c hc
    · have := ha d hd
      refine ⟨this.1, ?_, ?_⟩
      · show 0 ≤ max d.ver x.ver
        have := this.2.1; omega
      · show max d.ver x.ver ≤ _
        have := this.2.2; have := hx.2.2; omega
theorem bestP_tok {a b : List Sn} (ha : isTok a) (hb : isTok b) : isTok (bestP a b) :=
  tok_iff.2 ⟨bestP_ok (tok_iff.1 ha).1 (tok_iff.1 hb).1, bestP_up ha.up⟩
theorem bestT_eq {a b : List Sn} (ha : isTok a) (hb : isTok b) : bestT a b = bestP a b := if_pos ⟨ha, hb⟩
theorem both_comm {a b : List Sn} (k : List Nat) : both (getS a k) (getS b k) = both (getS b k) (getS a k) := by
  cases h1 : getS a k <;> cases h2 : getS b k <;> try rfl
  rename_i c d
  show some (maxF c d) = some (maxF d c)
  have hc := (getS_key h1).1
  have hd := (getS_key h2).1
  unfold maxF
  rw [hc, hd, Int.max_comm]
theorem best_comm {a b : List Sn} (ha : isTok a) (hb : isTok b) : bestP a b = bestP b a :=
  up_ext (bestP_up ha.up) (bestP_up hb.up) fun k => by rw [getS_best ha.up hb.up, getS_best hb.up ha.up, both_comm]
theorem getS_ok {a : List Sn} (ha : isTok a) {k : List Nat} {c : Sn} (h : getS a k = some c) : 0 ≤ c.ver := ((tok_iff.1 ha).1 c (getS_key h).2).2.1
theorem best_of {a b : List Sn} (ha : isTok a) (hb : isTok b) (k : List Nat) : ofT (bestP a b) k = max (ofT a k) (ofT b k) := by
  unfold ofT
  rw [getS_best ha.up hb.up]
  cases h1 : getS a k <;> cases h2 : getS b k
  · rfl
  · rename_i d; have := getS_ok hb h2; show d.ver = max 0 d.ver; omega
  · rename_i d; have := getS_ok ha h1; show d.ver = max d.ver 0; omega
  · rfl
theorem best_again {a b : List Sn} (ha : isTok a) (hb : isTok b) : bestP (bestP a b) a = bestP a b :=
  up_ext (bestP_up (bestP_up ha.up)) (bestP_up ha.up) fun k => by
    rw [getS_best (bestP_up ha.up) ha.up, getS_best ha.up hb.up]
    cases getS a k <;> cases getS b k <;> try rfl
    all_goals simp only [both, maxF]; congr 2; omega
theorem best_self {a : List Sn} (ha : isTok a) : bestP a a = a :=
  up_ext (bestP_up ha.up) ha.up fun k => by
    rw [getS_best ha.up ha.up]
    cases getS a k
    · rfl
    · simp only [both, maxF]; congr 2; omega
theorem f9_ok {u v : AV} {a l : List Sn} (hB : Arr H 2 u (a.map Sn.enc)) (hA : Arr H 2 v (l.map Sn.enc)) (ha : a.length ≤ 9223372036854775807) (hl : l.length ≤ 9223372036854775807) (k : List Nat) :
    FnOk Try.prog 9 [u, v, .str k] H fun r G => r = .bool true ∧ G = H := by
  refine FnOk.assume fun hok => ?_
  refine FnOk.drop (R := fun r => r = .bool true) ?_ (by rintro v rfl ρ; rw [AV.ren])
  refine FnOk.of_WW Try.func9 rfl C9ok R9ok E0 good_E0 ?_
  simp only [go_sem, C9, Nat.reduceAdd, Nat.reduceSub, Nat.reduceMul, Nat.reduceDiv, Nat.reduceMod, Nat.reduceEqDiff, Nat.reduceLeDiff, Nat.reduceLT, Int.reduceLT, Int.reduceLE, Int.reduceEq, Int.reduceToNat, reduceIte, reduceCtorEq, List.length_nil, List.map_nil, List.length_cons, List.map_cons, List.replicate_succ, List.replicate_zero, List.set_cons_zero, List.set_cons_succ, List.take_succ_cons, List.take_zero, List.take_nil, List.length_append, List.map_append, List.cons_append, List.nil_append, List.drop_succ_cons, List.drop_zero, List.append_nil, List.getElem?_cons_zero, List.getElem?_cons_succ, eq_self, true_implies, not_true_eq_false, not_false_eq_true, false_implies, and_true, true_and, decide_true, decide_false, Bool.not_true, Bool.not_false]
  refine CL.one f37_ok ?_
  simp only [go_sem, Nat.reduceAdd, Nat.reduceSub, Nat.reduceMul, Nat.reduceDiv, Nat.reduceMod, Nat.reduceEqDiff, Nat.reduceLeDiff, Nat.reduceLT, Int.reduceLT, Int.reduceLE, Int.reduceEq, Int.reduceToNat, reduceIte, reduceCtorEq, List.length_nil, List.map_nil, List.length_cons, List.map_cons, List.replicate_succ, List.replicate_zero, List.set_cons_zero, List.set_cons_succ, List.take_succ_cons, List.take_zero, List.take_nil, List.length_append, List.map_append, List.cons_append, List.nil_append, List.drop_succ_cons, List.drop_zero, List.append_nil, List.getElem?_cons_zero, List.getElem?_cons_succ, eq_self, true_implies, not_true_eq_false, not_false_eq_true, false_implies, and_true, true_and, decide_true, decide_false, Bool.not_true, Bool.not_false]
  refine CL.bool (f38_ok (hB.ext []) ha) (fun h1 => ?_) (fun h1 => ?_)
  · simp only [go_sem, Nat.reduceAdd, Nat.reduceSub, Nat.reduceMul, Nat.reduceDiv, Nat.reduceMod, Nat.reduceEqDiff, Nat.reduceLeDiff, Nat.reduceLT, Int.reduceLT, Int.reduceLE, Int.reduceEq, Int.reduceToNat, reduceIte, reduceCtorEq, List.length_nil, List.map_nil, List.length_cons, List.map_cons, List.replicate_succ, List.replicate_zero, List.set_cons_zero, List.set_cons_succ, List.take_succ_cons, List.take_zero, List.take_nil, List.length_append, List.map_append, List.cons_append, List.nil_append, List.drop_succ_cons, List.drop_zero, List.append_nil, List.getElem?_cons_zero, List.getElem?_cons_succ, eq_self, true_implies, not_true_eq_false, not_false_eq_true, false_implies, and_true, true_and, decide_true, decide_false, Bool.not_true, Bool.not_false]
    refine CL.bool (f38_ok (hA.ext []) hl) (fun h2 => ?_) (fun h2 => ?_)
    · have ha1 := h1.2
      have hl1 := h2.2
      simp only [go_sem, Nat.reduceAdd, Nat.reduceSub, Nat.reduceMul, Nat.reduceDiv, Nat.reduceMod, Nat.reduceEqDiff, Nat.reduceLeDiff, Nat.reduceLT, Int.reduceLT, Int.reduceLE, Int.reduceEq, Int.reduceToNat, reduceIte, reduceCtorEq, List.length_nil, List.map_nil, List.length_cons, List.map_cons, List.replicate_succ, List.replicate_zero, List.set_cons_zero, List.set_cons_succ, List.take_succ_cons, List.take_zero, List.take_nil, List.length_append, List.map_append, List.cons_append, List.nil_append, List.drop_succ_cons, List.drop_zero, List.append_nil, List.getElem?_cons_zero, List.getElem?_cons_succ, eq_self, true_implies, not_true_eq_false, not_false_eq_true, false_implies, and_true, true_and, decide_true, decide_false, Bool.not_true, Bool.not_false]
      refine CL.bool (f39_ok (hB.ext []) (by omega)) (fun h3 => ?_) (fun h3 => ?_)
      · simp only [go_sem, Nat.reduceAdd, Nat.reduceSub, Nat.reduceMul, Nat.reduceDiv, Nat.reduceMod, Nat.reduceEqDiff, Nat.reduceLeDiff, Nat.reduceLT, Int.reduceLT, Int.reduceLE, Int.reduceEq, Int.reduceToNat, reduceIte, reduceCtorEq, List.length_nil, List.map_nil, List.length_cons, List.map_cons, List.replicate_succ, List.replicate_zero, List.set_cons_zero, List.set_cons_succ, List.take_succ_cons, List.take_zero, List.take_nil, List.length_append, List.map_append, List.cons_append, List.nil_append, List.drop_succ_cons, List.drop_zero, List.append_nil, List.getElem?_cons_zero, List.getElem?_cons_succ, eq_self, true_implies, not_true_eq_false, not_false_eq_true, false_implies, and_true, true_and, decide_true, decide_false, Bool.not_true, Bool.not_false]
        refine CL.bool (f39_ok (hA.ext []) (by omega)) (fun h4 => ?_) (fun h4 => ?_)
        · simp only [go_sem, Nat.reduceAdd, Nat.reduceSub, Nat.reduceMul, Nat.reduceDiv, Nat.reduceMod, Nat.reduceEqDiff, Nat.reduceLeDiff, Nat.reduceLT, Int.reduceLT, Int.reduceLE, Int.reduceEq, Int.reduceToNat, reduceIte, reduceCtorEq, List.length_nil, List.map_nil, List.length_cons, List.map_cons, List.replicate_succ, List.replicate_zero, List.set_cons_zero, List.set_cons_succ, List.take_succ_cons, List.take_zero, List.take_nil, List.length_append, List.map_append, List.cons_append, List.nil_append, List.drop_succ_cons, List.drop_zero, List.append_nil, List.getElem?_cons_zero, List.getElem?_cons_succ, eq_self, true_implies, not_true_eq_false, not_false_eq_true, false_implies, and_true, true_and, decide_true, decide_false, Bool.not_true, Bool.not_false]
          refine ⟨fun _ => ⟨_, rfl⟩, fun h5 => ?_⟩
          refine CL.of (f40_ok (hB.ext []) (hA.ext []) (by omega) (by omega)) ?_
          rintro _ _ ⟨z, rfl, rfl⟩
          rw [bestT_eq h3 h4]
          simp only [go_sem, Nat.reduceAdd, Nat.reduceSub, Nat.reduceMul, Nat.reduceDiv, Nat.reduceMod, Nat.reduceEqDiff, Nat.reduceLeDiff, Nat.reduceLT, Int.reduceLT, Int.reduceLE, Int.reduceEq, Int.reduceToNat, reduceIte, reduceCtorEq, List.length_nil, List.map_nil, List.length_cons, List.map_cons, List.replicate_succ, List.replicate_zero, List.set_cons_zero, List.set_cons_succ, List.take_succ_cons, List.take_zero, List.take_nil, List.length_append, List.map_append, List.cons_append, List.nil_append, List.drop_succ_cons, List.drop_zero, List.append_nil, List.getElem?_cons_zero, List.getElem?_cons_succ, eq_self, true_implies, not_true_eq_false, not_false_eq_true, false_implies, and_true, true_and, decide_true, decide_false, Bool.not_true, Bool.not_false]
          refine CL.of (f40_ok (hA.ext _) (hB.ext _) (by omega) (by omega)) ?_
          rintro _ _ ⟨y, rfl, rfl⟩
          rw [bestT_eq h4 h3, ← best_comm h3 h4]
          have hml := bestP_len (a := a) (b := l)
          have hmt := bestP_tok h3 h4
          simp only [go_sem, Nat.reduceAdd, Nat.reduceSub, Nat.reduceMul, Nat.reduceDiv, Nat.reduceMod, Nat.reduceEqDiff, Nat.reduceLeDiff, Nat.reduceLT, Int.reduceLT, Int.reduceLE, Int.reduceEq, Int.reduceToNat, reduceIte, reduceCtorEq, List.length_nil, List.map_nil, List.length_cons, List.map_cons, List.replicate_succ, List.replicate_zero, List.set_cons_zero, List.set_cons_succ, List.take_succ_cons, List.take_zero, List.take_nil, List.length_append, List.map_append, List.cons_append, List.nil_append, List.drop_succ_cons, List.drop_zero, List.append_nil, List.getElem?_cons_zero, List.getElem?_cons_succ, eq_self, true_implies, not_true_eq_false, not_false_eq_true, false_implies, and_true, true_and, decide_true, decide_false, Bool.not_true, Bool.not_false]
          refine CL.one (f39_ok (arr_zV rfl (List.length_map ..)) (by omega)) ?_
          rw [decide_eq_true hmt]
          simp only [go_sem, Nat.reduceAdd, Nat.reduceSub, Nat.reduceMul, Nat.reduceDiv, Nat.reduceMod, Nat.reduceEqDiff, Nat.reduceLeDiff, Nat.reduceLT, Int.reduceLT, Int.reduceLE, Int.reduceEq, Int.reduceToNat, reduceIte, reduceCtorEq, List.length_nil, List.map_nil, List.length_cons, List.map_cons, List.replicate_succ, List.replicate_zero, List.set_cons_zero, List.set_cons_succ, List.take_succ_cons, List.take_zero, List.take_nil, List.length_append, List.map_append, List.cons_append, List.nil_append, List.drop_succ_cons, List.drop_zero, List.append_nil, List.getElem?_cons_zero, List.getElem?_cons_succ, eq_self, true_implies, not_true_eq_false, not_false_eq_true, false_implies, and_true, true_and, decide_true, decide_false, Bool.not_true, Bool.not_false]
          refine CL.one (f41_ok (arr_zV rfl (List.length_map ..)) (arr_zV rfl (List.length_map ..)) (by omega)) ?_
          rw [decide_eq_true rfl]
          simp only [go_sem, Nat.reduceAdd, Nat.reduceSub, Nat.reduceMul, Nat.reduceDiv, Nat.reduceMod, Nat.reduceEqDiff, Nat.reduceLeDiff, Nat.reduceLT, Int.reduceLT, Int.reduceLE, Int.reduceEq, Int.reduceToNat, reduceIte, reduceCtorEq, List.length_nil, List.map_nil, List.length_cons, List.map_cons, List.replicate_succ, List.replicate_zero, List.set_cons_zero, List.set_cons_succ, List.take_succ_cons, List.take_zero, List.take_nil, List.length_append, List.map_append, List.cons_append, List.nil_append, List.drop_succ_cons, List.drop_zero, List.append_nil, List.getElem?_cons_zero, List.getElem?_cons_succ, eq_self, true_implies, not_true_eq_false, not_false_eq_true, false_implies, and_true, true_and, decide_true, decide_false, Bool.not_true, Bool.not_false]
          refine CL.one (f42_ok (arr_zV rfl (List.length_map ..)) (by omega) k) ?_
          simp only [go_sem, Nat.reduceAdd, Nat.reduceSub, Nat.reduceMul, Nat.reduceDiv, Nat.reduceMod, Nat.reduceEqDiff, Nat.reduceLeDiff, Nat.reduceLT, Int.reduceLT, Int.reduceLE, Int.reduceEq, Int.reduceToNat, reduceIte, reduceCtorEq, List.length_nil, List.map_nil, List.length_cons, List.map_cons, List.replicate_succ, List.replicate_zero, List.set_cons_zero, List.set_cons_succ, List.take_succ_cons, List.take_zero, List.take_nil, List.length_append, List.map_append, List.cons_append, List.nil_append, List.drop_succ_cons, List.drop_zero, List.append_nil, List.getElem?_cons_zero, List.getElem?_cons_succ, eq_self, true_implies, not_true_eq_false, not_false_eq_true, false_implies, and_true, true_and, decide_true, decide_false, Bool.not_true, Bool.not_false]
          refine CL.one (f42_ok (hB.ext _) (by omega) k) ?_
          simp only [go_sem, Nat.reduceAdd, Nat.reduceSub, Nat.reduceMul, Nat.reduceDiv, Nat.reduceMod, Nat.reduceEqDiff, Nat.reduceLeDiff, Nat.reduceLT, Int.reduceLT, Int.reduceLE, Int.reduceEq, Int.reduceToNat, reduceIte, reduceCtorEq, List.length_nil, List.map_nil, List.length_cons, List.map_cons, List.replicate_succ, List.replicate_zero, List.set_cons_zero, List.set_cons_succ, List.take_succ_cons, List.take_zero, List.take_nil, List.length_append, List.map_append, List.cons_append, List.nil_append, List.drop_succ_cons, List.drop_zero, List.append_nil, List.getElem?_cons_zero, List.getElem?_cons_succ, eq_self, true_implies, not_true_eq_false, not_false_eq_true, false_implies, and_true, true_and, decide_true, decide_false, Bool.not_true, Bool.not_false]
          refine CL.one (f42_ok (hA.ext _) (by omega) k) ?_
          simp only [go_sem, Nat.reduceAdd, Nat.reduceSub, Nat.reduceMul, Nat.reduceDiv, Nat.reduceMod, Nat.reduceEqDiff, Nat.reduceLeDiff, Nat.reduceLT, Int.reduceLT, Int.reduceLE, Int.reduceEq, Int.reduceToNat, reduceIte, reduceCtorEq, List.length_nil, List.map_nil, List.length_cons, List.map_cons, List.replicate_succ, List.replicate_zero, List.set_cons_zero, List.set_cons_succ, List.take_succ_cons, List.take_zero, List.take_nil, List.length_append, List.map_append, List.cons_append, List.nil_append, List.drop_succ_cons, List.drop_zero, List.append_nil, List.getElem?_cons_zero, List.getElem?_cons_succ, eq_self, true_implies, not_true_eq_false, not_false_eq_true, false_implies, and_true, true_and, decide_true, decide_false, Bool.not_true, Bool.not_false, best_of h3 h4]
          refine CL.of (f40_ok (arr_zV rfl (List.length_map ..)) (hB.ext _) (by omega) (by omega)) ?_
          rintro _ _ ⟨y2, rfl, rfl⟩
          rw [bestT_eq hmt h3, best_again h3 h4]
          simp only [go_sem, Nat.reduceAdd, Nat.reduceSub, Nat.reduceMul, Nat.reduceDiv, Nat.reduceMod, Nat.reduceEqDiff, Nat.reduceLeDiff, Nat.reduceLT, Int.reduceLT, Int.reduceLE, Int.reduceEq, Int.reduceToNat, reduceIte, reduceCtorEq, List.length_nil, List.map_nil, List.length_cons, List.map_cons, List.replicate_succ, List.replicate_zero, List.set_cons_zero, List.set_cons_succ, List.take_succ_cons, List.take_zero, List.take_nil, List.length_append, List.map_append, List.cons_append, List.nil_append, List.drop_succ_cons, List.drop_zero, List.append_nil, List.getElem?_cons_zero, List.getElem?_cons_succ, eq_self, true_implies, not_true_eq_false, not_false_eq_true, false_implies, and_true, true_and, decide_true, decide_false, Bool.not_true, Bool.not_false]
          refine CL.one (f41_ok (arr_zV rfl (List.length_map ..)) (arr_zV rfl (List.length_map ..)) (by omega)) ?_
          rw [decide_eq_true rfl]
          simp only [go_sem, Nat.reduceAdd, Nat.reduceSub, Nat.reduceMul, Nat.reduceDiv, Nat.reduceMod, Nat.reduceEqDiff, Nat.reduceLeDiff, Nat.reduceLT, Int.reduceLT, Int.reduceLE, Int.reduceEq, Int.reduceToNat, reduceIte, reduceCtorEq, List.length_nil, List.map_nil, List.length_cons, List.map_cons, List.replicate_succ, List.replicate_zero, List.set_cons_zero, List.set_cons_succ, List.take_succ_cons, List.take_zero, List.take_nil, List.length_append, List.map_append, List.cons_append, List.nil_append, List.drop_succ_cons, List.drop_zero, List.append_nil, List.getElem?_cons_zero, List.getElem?_cons_succ, eq_self, true_implies, not_true_eq_false, not_false_eq_true, false_implies, and_true, true_and, decide_true, decide_false, Bool.not_true, Bool.not_false]
          refine CL.of (f40_ok (hB.ext _) (hB.ext _) (by omega) (by omega)) ?_
          rintro _ _ ⟨y3, rfl, rfl⟩
          rw [bestT_eq h3 h3, best_self h3]
          simp only [go_sem, Nat.reduceAdd, Nat.reduceSub, Nat.reduceMul, Nat.reduceDiv, Nat.reduceMod, Nat.reduceEqDiff, Nat.reduceLeDiff, Nat.reduceLT, Int.reduceLT, Int.reduceLE, Int.reduceEq, Int.reduceToNat, reduceIte, reduceCtorEq, List.length_nil, List.map_nil, List.length_cons, List.map_cons, List.replicate_succ, List.replicate_zero, List.set_cons_zero, List.set_cons_succ, List.take_succ_cons, List.take_zero, List.take_nil, List.length_append, List.map_append, List.cons_append, List.nil_append, List.drop_succ_cons, List.drop_zero, List.append_nil, List.getElem?_cons_zero, List.getElem?_cons_succ, eq_self, true_implies, not_true_eq_false, not_false_eq_true, false_implies, and_true, true_and, decide_true, decide_false, Bool.not_true, Bool.not_false]
          refine CL.one (f41_ok (arr_zV rfl (List.length_map ..)) (hB.ext _) (by omega)) ?_
          rw [decide_eq_true rfl]
          simp only [go_sem, Nat.reduceAdd, Nat.reduceSub, Nat.reduceMul, Nat.reduceDiv, Nat.reduceMod, Nat.reduceEqDiff, Nat.reduceLeDiff, Nat.reduceLT, Int.reduceLT, Int.reduceLE, Int.reduceEq, Int.reduceToNat, reduceIte, reduceCtorEq, List.length_nil, List.map_nil, List.length_cons, List.map_cons, List.replicate_succ, List.replicate_zero, List.set_cons_zero, List.set_cons_succ, List.take_succ_cons, List.take_zero, List.take_nil, List.length_append, List.map_append, List.cons_append, List.nil_append, List.drop_succ_cons, List.drop_zero, List.append_nil, List.getElem?_cons_zero, List.getElem?_cons_succ, eq_self, true_implies, not_true_eq_false, not_false_eq_true, false_implies, and_true, true_and, decide_true, decide_false, Bool.not_true, Bool.not_false]
          exact ⟨_, rfl⟩
        · simp only [go_sem, Nat.reduceAdd, Nat.reduceSub, Nat.reduceMul, Nat.reduceDiv, Nat.reduceMod, Nat.reduceEqDiff, Nat.reduceLeDiff, Nat.reduceLT, Int.reduceLT, Int.reduceLE, Int.reduceEq, Int.reduceToNat, reduceIte, reduceCtorEq, List.length_nil, List.map_nil, List.length_cons, List.map_cons, List.replicate_succ, List.replicate_zero, List.set_cons_zero, List.set_cons_succ, List.take_succ_cons, List.take_zero, List.take_nil, List.length_append, List.map_append, List.cons_append, List.nil_append, List.drop_succ_cons, List.drop_zero, List.append_nil, List.getElem?_cons_zero, List.getElem?_cons_succ, eq_self, true_implies, not_true_eq_false, not_false_eq_true, false_implies, and_true, true_and, decide_true, decide_false, Bool.not_true, Bool.not_false]
          exact ⟨_, rfl⟩
      · simp only [go_sem, Nat.reduceAdd, Nat.reduceSub, Nat.reduceMul, Nat.reduceDiv, Nat.reduceMod, Nat.reduceEqDiff, Nat.reduceLeDiff, Nat.reduceLT, Int.reduceLT, Int.reduceLE, Int.reduceEq, Int.reduceToNat, reduceIte, reduceCtorEq, List.length_nil, List.map_nil, List.length_cons, List.map_cons, List.replicate_succ, List.replicate_zero, List.set_cons_zero, List.set_cons_succ, List.take_succ_cons, List.take_zero, List.take_nil, List.length_append, List.map_append, List.cons_append, List.nil_append, List.drop_succ_cons, List.drop_zero, List.append_nil, List.getElem?_cons_zero, List.getElem?_cons_succ, eq_self, true_implies, not_true_eq_false, not_false_eq_true, false_implies, and_true, true_and, decide_true, decide_false, Bool.not_true, Bool.not_false]
        exact ⟨_, rfl⟩
    · simp only [go_sem, Nat.reduceAdd, Nat.reduceSub, Nat.reduceMul, Nat.reduceDiv, Nat.reduceMod, Nat.reduceEqDiff, Nat.reduceLeDiff, Nat.reduceLT, Int.reduceLT, Int.reduceLE, Int.reduceEq, Int.reduceToNat, reduceIte, reduceCtorEq, List.length_nil, List.map_nil, List.length_cons, List.map_cons, List.replicate_succ, List.replicate_zero, List.set_cons_zero, List.set_cons_succ, List.take_succ_cons, List.take_zero, List.take_nil, List.length_append, List.map_append, List.cons_append, List.nil_append, List.drop_succ_cons, List.drop_zero, List.append_nil, List.getElem?_cons_zero, List.getElem?_cons_succ, eq_self, true_implies, not_true_eq_false, not_false_eq_true, false_implies, and_true, true_and, decide_true, decide_false, Bool.not_true, Bool.not_false]
      exact ⟨_, rfl⟩
  · simp only [go_sem, Nat.reduceAdd, Nat.reduceSub, Nat.reduceMul, Nat.reduceDiv, Nat.reduceMod, Nat.reduceEqDiff, Nat.reduceLeDiff, Nat.reduceLT, Int.reduceLT, Int.reduceLE, Int.reduceEq, Int.reduceToNat, reduceIte, reduceCtorEq, List.length_nil, List.map_nil, List.length_cons, List.map_cons, List.replicate_succ, List.replicate_zero, List.set_cons_zero, List.set_cons_succ, List.take_succ_cons, List.take_zero, List.take_nil, List.length_append, List.map_append, List.cons_append, List.nil_append, List.drop_succ_cons, List.drop_zero, List.append_nil, List.getElem?_cons_zero, List.getElem?_cons_succ, eq_self, true_implies, not_true_eq_false, not_false_eq_true, false_implies, and_true, true_and, decide_true, decide_false, Bool.not_true, Bool.not_false]
    exact ⟨_, rfl⟩
end Go.Proofs
/- From a function that is known to answer true to what a law's row asks. -/

set_option linter.all false
namespace Go.Ev
open Go.ChangeShapes Go.WideShapes Go.RowKit
variable {P : Program} {H : Heap}
theorem kept_of_heap {W W' : World} (h1 : W'.os = W.os) (h2 : W'.output = W.output) (h : ∀ b, b < W.heap.size → W'.heap[b]? = W.heap[b]?) (may : MemPlace → Prop) : W.keptBut W' may := by
  refine ⟨h1, h2, fun i hi => ?_⟩
  rw [h i hi]
  split
  · rename_i e1 e2
    rw [e1] at e2; cases e2
    exact ⟨rfl, rfl, rfl, fun _ _ => rfl⟩
  · rename_i e1 e2
    rw [e1] at e2; cases e2
    exact .inr ⟨rfl, rfl⟩
  · rfl
theorem trodAll_below {HH : Type} {enc : TypeId × Value → HH} (hl : laidOutB P = true) {W W' : World} (hb : Below W.heap.size W W') : ∀ {ts : List TypeId} {vs : List Value} {ds : List (DataW HH)} {ps : List MemPlace},
    (∀ t ∈ ts, P.readableRec t = true ∧ t < P.types.size) → DataW.TrodAll enc P W 0 (fun _ => true) true ts vs ds ps → (∀ x ∈ ps, x.block < W.heap.size) →
    DataW.TrodAll enc P W' 0 (fun b => decide (b < W.heap.size)) true ts vs ds ps
  | [], [], [], ps, _, h, _ => h
  | t :: ts, v :: vs, d :: ds, ps, hr, ⟨p, q, h1, h2, e⟩, hlt => by
    subst e
    exact ⟨p, q, Below.trod hl (hr t (by simp)).1 (hr t (by simp)).2 h1 hb (fun x hx => hlt x (by simp [hx])), trodAll_below hl hb (fun t ht => hr t (by simp [ht])) h2 (fun x hx => hlt x (by simp [hx])), rfl⟩
  | [], _ :: _, _, _, _, h, _ => absurd h (by simp [DataW.TrodAll])
  | [], [], _ :: _, _, _, h, _ => absurd h (by simp [DataW.TrodAll])
  | _ :: _, [], _, _, _, h, _ => absurd h (by simp [DataW.TrodAll])
  | _ :: _, _ :: _, [], _, _, h, _ => absurd h (by simp [DataW.TrodAll])
/-- A LAW: it answers true, whatever it is given; what it was given stands as it stood -/
theorem law_calls {HH : Type} {enc : TypeId × Value → HH} {f : FuncId} {fn : Func} {s : ChangeSpec} {apart : Bool} {W : World} {args : Array Value} {ds gs : List (DataW HH)} {before : List MemPlace} {tb : TypeId}
    (hl : laidOutB P = true) (hr : ∀ t ∈ fn.params.toList, P.readableRec t = true ∧ t < P.types.size) (hres : fn.resultTypes = #[tb]) (htb : P.underlying tb = some .bool)
    (hv0 : s.vars = []) (h1 : (s.fn HH ds).results = [.lit (.bool true)]) (h2 : (s.fn HH ds).args = ds) (h3 : (s.fn HH ds).vars = [])
    (hW : DataW.Whole enc P fn.params.toList s.vars apart W args.toList ds gs before)
    {φ : Phi} {avs : List AV} (hw : WRel P φ H W) (ha : VRels P φ avs args.toList) (hown : ∀ k b, H.get k = some b → ¬ b.mayWrite)
    (hok : FnOk P f avs H fun v G => v = .bool true ∧ G = H) :
    Calls P f args W fun e W' => ∃ v, e = .returned v ∧ s.post enc P fn apart true false false W args v W' := by
  refine (hok φ W args ha hw).mono ?_
  rintro e W' ⟨v, G, ⟨rfl, rfl⟩, ψ, v', he, hv, hw', hext⟩
  cases hv
  refine ⟨_, he, ?_⟩
  have hheap : ∀ b, b < W.heap.size → W'.heap[b]? = W.heap[b]? := fun b hb => hext.keeps b hb (by
    rintro ⟨k, c, a, hc, hm, _⟩
    exact hown k c hc hm)
  have hbelow : Below W.heap.size W W' := ⟨hext.os, hext.tape, hext.output, hext.size, hheap⟩
  have hW0 := hW
  obtain ⟨p, q, hA, hV, rfl, hz, hn⟩ := hW
  rw [hv0] at hV
  obtain ⟨rfl, rfl⟩ := trodVars_none hV
  have hlt : ∀ x ∈ p, x.block < W.heap.size := fun x hx => hW0.lt x (by simp [hx])
  refine ⟨ds, [], p ++ [], [], p, [], hW0, ?_, ?_, ?_, kept_of_heap hext.os hext.output hheap _, fun h => by cases h⟩
  · rw [List.append_nil, h1, hres]
    exact trodAll_mk1 (shut_bool htb true)
  · rw [List.append_nil, h2]
    exact trodAll_below hl hbelow hr hA hlt
  · rw [List.append_nil, h3, hv0]
    rfl
end Go.Ev
/- What is given to a law: opened into the evaluator's memory. -/

set_option linter.all false
namespace Go.Ev
open Go.ChangeShapes Go.WideShapes Go.RowKit
variable {P : Program}
/-- kinds of cells -/
inductive PK where
  | str
  | int (k : IntKind)
  | bool
def PK.ty (P : Program) (t : TypeId) : PK → Prop
  | .str => P.underlying t = some .string
  | .int k => P.underlying t = some (.int k)
  | .bool => P.underlying t = some .bool
inductive KOf : PK → AV → Prop
  | str (l : List Nat) (h : l.length ≤ 9223372036854775807) : KOf .str (.str l)
  | int (k : IntKind) (n : Int) (h : (Lit.int k n).wf = true) : KOf (.int k) (.int k n)
  | bool (b : Bool) : KOf .bool (.bool b)
/-- a row of cells of such kinds -/
def RowOf (ks : List PK) (row : List AV) : Prop := row.length = ks.length ∧ ∀ (i : Nat) (k : PK) (v : AV), ks[i]? = some k → row[i]? = some v → KOf k v
section
variable {HH : Type} {enc : TypeId × Value → HH} {w : World} {base : Nat} {sp : Nat → Bool} {held : Bool} {fuel : Nat} {t : TypeId} {cs : List Value} {x : DataW HH × List MemPlace}
theorem open_prim {k : PK} (hk : k.ty P t) (h : DataW.trod enc P w base sp held fuel t cs = some x) : ∃ v av, cs = [v] ∧ (∀ φ, VRel P φ av v) ∧ v.oneCell' = true ∧ KOf k av := by
  cases k with
  | str =>
    obtain ⟨s, rfl, _, hs⟩ := DataW.trod_string hk h
    refine ⟨_, .str (s.data.toList.map (·.toNat)), rfl, fun φ => .str _ _ rfl, rfl, .str _ ?_⟩
    rw [List.length_map]
    exact hs
  | int k =>
    obtain ⟨n, rfl, _, hn⟩ := DataW.trod_int hk h
    exact ⟨_, .int k n, rfl, fun φ => .int _ _, rfl, .int _ _ hn⟩
  | bool =>
    obtain ⟨b, rfl, _⟩ := DataW.trod_bool hk h
    exact ⟨_, .bool b, rfl, fun φ => .bool _, rfl, .bool _⟩
theorem vrels_of_get {φ : Phi} : ∀ {l : List AV} {l' : List Value}, l.length = l'.length → (∀ (i : Nat) (v : AV) (v' : Value), l[i]? = some v → l'[i]? = some v' → VRel P φ v v') → VRels P φ l l'
  | [], [], _, _ => .nil
  | v :: l, v' :: l', hl, h => .cons _ _ _ _ (h 0 v v' rfl rfl) (vrels_of_get (by simpa using hl) fun i a b ha hb => h (i + 1) a b (by simpa using ha) (by simpa using hb))
  | [], _ :: _, h, _ => by simp at h
  | _ :: _, [], h, _ => by simp at h
/-- a struct whose fields are a cell each -/
structure Flat (P : Program) (t : TypeId) (ks : List PK) : Prop where
  st : ∃ fs : Array Field, P.underlying t = some (.struct fs) ∧ fs.size = ks.length ∧ ∀ (i : Nat) (f : Field), fs[i]? = some f → f.offset = i ∧ P.cellsOf f.type = 1 ∧ ∃ k, ks[i]? = some k ∧ k.ty P f.type
  cells : P.cellsOf t = ks.length
theorem open_flat {ks : List PK} (hf : Flat P t ks) (h : DataW.trod enc P w base sp held fuel t cs = some x) :
    ∃ row, (∀ φ, VRels P φ row cs) ∧ cs.length = ks.length ∧ (∀ v ∈ cs, v.oneCell' = true) ∧ RowOf ks row := by
  obtain ⟨fs, ht, hn, hfs⟩ := hf.st
  obtain ⟨xs, n, _, _, hcl, hxl, hx⟩ := DataW.trod_struct ht h
  rw [hf.cells] at hcl
  have each : ∀ i : Nat, i < ks.length → ∃ av, ∃ v, cs[i]? = some v ∧ (∀ φ, VRel P φ av v) ∧ v.oneCell' = true ∧ ∃ k, ks[i]? = some k ∧ KOf k av := by
    intro i hi
    have hfi : fs[i]? = some fs[i] := Array.getElem?_eq_getElem (by omega)
    obtain ⟨h1, h2, k, h3, h4⟩ := hfs i _ hfi
    have hxi := hx i _ hfi
    rw [h1, h2, List.getElem?_eq_getElem (by omega)] at hxi
    obtain ⟨v, av, he, hv, ho, hk⟩ := open_prim h4 hxi
    refine ⟨av, v, ?_, hv, ho, k, h3, hk⟩
    have : (cs.drop i)[0]? = some v := by
      have e : ((cs.drop i).take 1)[0]? = some v := by rw [he]; rfl
      rwa [List.getElem?_take_of_lt (by omega)] at e
    rwa [List.getElem?_drop, Nat.add_zero] at this
  have hrow : ∃ row : List AV, row.length = ks.length ∧ ∀ (i : Nat) (av : AV), row[i]? = some av → ∃ v, cs[i]? = some v ∧ (∀ φ, VRel P φ av v) ∧ v.oneCell' = true ∧ ∃ k, ks[i]? = some k ∧ KOf k av := by
    refine ⟨List.ofFn (n := ks.length) fun i => Classical.choose (each i.1 i.2), by simp, fun i av hi => ?_⟩
    rw [List.getElem?_ofFn] at hi
    split at hi
    · rename_i hlt
      cases hi
      exact Classical.choose_spec (each i hlt)
    · cases hi
  obtain ⟨row, hrl, hr⟩ := hrow
  refine ⟨row, fun φ => vrels_of_get (by omega) ?_, hcl, ?_, hrl, ?_⟩
  · intro i v v' hi hi'
    obtain ⟨u, hu, hv, _⟩ := hr i v hi
    rw [hi'] at hu; cases hu
    exact hv φ
  · intro v hv
    obtain ⟨i, hi, rfl⟩ := List.mem_iff_getElem.1 hv
    obtain ⟨u, hu, _, ho, _⟩ := hr i _ (List.getElem?_eq_getElem (show i < row.length by omega))
    rw [List.getElem?_eq_getElem hi] at hu; cases hu
    exact ho
  · intro i k v hk hi
    obtain ⟨_, _, _, _, k', hk', h⟩ := hr i v hi
    rw [hk] at hk'; cases hk'
    exact h
end
/-- one more block that is only read -/
theorem WRel.arg {φ : Phi} {H : Heap} {w : World} (hw : WRel P φ H w) (hro : ∀ k b, H.get k = some b → ¬ b.mayWrite) {a : At} {b : Blk} (hb : BlkRel P φ w a b) (ha : a.b < w.heap.size) (hm : ¬ b.mayWrite) :
    WRel P (φ.put H.nx a) (H.add b) w ∧ (∀ k c, (H.add b).get k = some c → ¬ c.mayWrite) ∧ φ.le (φ.put H.nx a) := by
  have hnone := hw.nx_none
  have hle := Phi.put_le φ H.nx a hnone
  have hsucc : H.nx.toNat < (H.add b).nx.toNat := K.lt_succ _
  have hput : ∀ j x, j ≠ H.nx → φ.put H.nx a j = some x → φ j = some x := by
    intro j x hj hx
    unfold Phi.put at hx
    rwa [if_neg hj] at hx
  have hro' : ∀ k c, (H.add b).get k = some c → ¬ c.mayWrite := by
    intro k c hk
    rw [Heap.get_add] at hk
    split at hk
    · cases hk; exact hm
    · exact hro k c hk
  refine ⟨⟨?_, ?_, ?_, ?_, ?_⟩, hro', hle⟩
  · intro j x hx
    by_cases e : j = H.nx
    · subst e; exact hsucc
    · exact Nat.lt_trans (hw.dom j x (hput j x e hx)) hsucc
  · intro j c hj
    rw [Heap.get_add] at hj
    split at hj
    · rename_i e; subst e; exact hsucc
    · exact Nat.lt_trans (hw.top j c hj) hsucc
  · intro j c x hj hx
    rw [Heap.get_add] at hj
    split at hj
    · rename_i e; subst e
      cases hj
      rw [Phi.put_same] at hx; cases hx
      exact hb.mono hle
    · rename_i e
      exact (hw.blk j c x hj (hput j x (fun h => e h.symm) hx)).mono hle
  · intro i j c d x y _ hi _ _ _ _ _ _
    exact hro' i c hi
  · intro k x hx
    by_cases e : k = H.nx
    · subst e
      rw [Phi.put_same] at hx; cases hx
      exact ha
    · exact hw.size k x (hput k x e hx)
noncomputable def noHeap : Heap := .mk .z .lf
theorem noHeap_rel (w : World) : WRel P (fun _ => none) noHeap w :=
  ⟨fun k a h => (by cases h), fun k b h => (by cases k <;> cases h), fun k b a h => (by cases k <;> cases h), fun j k c d x y _ h => (by cases j <;> cases h), fun k a h => (by cases h)⟩
theorem noHeap_ro : ∀ k b, noHeap.get k = some b → ¬ b.mayWrite := fun k b h => by cases k <;> cases h
end Go.Ev
/- A slice that is given to a law, opened. -/

set_option linter.all false
namespace Go.Ev
open Go.ChangeShapes Go.WideShapes Go.RowKit Go.Deep
variable {P : Program}
theorem vrels_flat {φ : Phi} {n : Nat} : ∀ {rows : List (List AV)} {vs : List Value}, (∀ r ∈ rows, r.length = n) → vs.length = rows.length * n → (∀ (i : Nat) (r : List AV), rows[i]? = some r → VRels P φ r ((vs.drop (i * n)).take n)) → VRels P φ rows.flatten vs
  | [], vs, _, hl, _ => by
    obtain rfl : vs = [] := List.length_eq_zero_iff.1 (by simpa using hl)
    exact .nil
  | r :: rows, vs, hr, hl, h => by
    have h0 := h 0 r rfl
    rw [Nat.zero_mul, List.drop_zero] at h0
    have ih := vrels_flat (rows := rows) (vs := vs.drop n) (fun x hx => hr x (by simp [hx])) (by rw [List.length_drop, hl, List.length_cons, Nat.add_mul, Nat.one_mul, Nat.add_sub_cancel]) (fun i x hx => by
      have := h (i + 1) x (by simpa using hx)
      rwa [show (i + 1) * n = n + i * n by rw [Nat.add_mul, Nat.one_mul, Nat.add_comm], ← List.drop_drop] at this)
    rw [List.flatten_cons, ← List.take_append_drop n vs]
    exact h0.append ih
theorem slice_forms {W : World} {r : Reach} {base : Nat} {t e : TypeId} {v : Value} (ht : P.underlying t = some (.slice e)) (hval : Value.okWide P W r base t v) :
    v = .slice none 0 0 ∨ ∃ b o len cap, v = .slice (some ⟨b, o, none⟩) len cap ∧ len ≤ cap ∧ b < W.heap.size := by
  obtain ⟨a, len, cap, rfl⟩ := okWide_slice ht hval
  simp only [Value.okWide, ht, Cell.okWide] at hval
  cases a with
  | none =>
    cases len <;> cases cap <;> simp_all [Cell.ok]
  | some a =>
    simp only [Cell.ok, ht, World.has] at hval
    obtain ⟨h1, _, _, h3, row, cells, h4, _⟩ := hval
    obtain ⟨b, o, s⟩ := a
    simp only at h3
    subst h3
    refine .inr ⟨b, o, len, cap, rfl, h1, ?_⟩
    unfold World.shape? at h4
    rcases hh : W.heap[b]? with _ | z
    · simp only [hh] at h4; cases h4
    · exact (Array.getElem?_eq_some_iff.1 hh).1
theorem cells_at {W : World} {b o n : Nat} {cs : List Value} (h : W.cells? 0 ⟨b, o, none⟩ n = some cs) (hn : 0 < n) :
    ∃ c ty fr, W.heap[b]? = some (.cells c ty fr) ∧ o + n ≤ c.size ∧ (c.toList.drop o).take n = cs := by
  obtain ⟨_, hl, hc⟩ := World.cells?_some h
  have h0 := hc 0 hn
  rw [List.getElem?_eq_getElem (by omega)] at h0
  have key : ∀ i, (⟨b, o, none⟩ : Addr).add i = ⟨b, o + i, none⟩ := by
    intro i
    unfold Addr.add
    split
    · rename_i e; subst e; rfl
    · rfl
  rw [key] at h0
  unfold World.cell? at h0
  rcases hh : W.heap[b]? with _ | z
  · simp only [hh] at h0; cases h0
  · cases z with
    | cells c ty fr =>
      have hc' : ∀ i, i < n → c[o + i]? = cs[i]? := by
        intro i hi
        rw [← hc i hi, key]
        unfold World.cell?
        simp only [hh, Option.isSome_none, Bool.false_eq_true, if_false]
      have hlast := hc' (n - 1) (by omega)
      rw [List.getElem?_eq_getElem (by omega)] at hlast
      have hsz := (Array.getElem?_eq_some_iff.1 hlast).1
      refine ⟨c, ty, fr, rfl, by omega, ?_⟩
      apply List.ext_getElem?
      intro i
      rcases Nat.lt_or_ge i n with hi | hi
      · rw [List.getElem?_take_of_lt hi, List.getElem?_drop, Array.getElem?_toList, hc' i hi]
      · rw [List.getElem?_eq_none (by rw [List.length_take]; omega), List.getElem?_eq_none (by omega)]
    | _ => simp only [hh] at h0; cases h0
/-- A SLICE OF FLAT STRUCTS THAT IS GIVEN -/
theorem open_rows {HH : Type} {enc : TypeId × Value → HH} {W : World} {r : Reach} {base : Nat} {t e : TypeId} {v : Value} {d : DataW HH} {p : List MemPlace} {ks : List PK}
    (ht : P.underlying t = some (.slice e)) (hks : 0 < ks.length) (hce : P.cellsOf e = ks.length)
    (hflat : ∀ (n : Nat) (cs : List Value) (x : DataW HH × List MemPlace), DataW.trod enc P W 0 (fun _ => true) true n e cs = some x → ∃ row, (∀ φ, VRels P φ row cs) ∧ cs.length = ks.length ∧ (∀ v ∈ cs, v.oneCell' = true) ∧ RowOf ks row)
    (hval : Value.okWide P W r base t v) (h : DataW.Trod enc P W 0 (fun _ => true) true t v d p)
    {φ : Phi} {H : Heap} (hw : WRel P φ H W) (hro : ∀ k b, H.get k = some b → ¬ b.mayWrite) :
    ∃ φ' l av xs, WRel P φ' (H.ext l) W ∧ (∀ k b, (H.ext l).get k = some b → ¬ b.mayWrite) ∧ φ.le φ' ∧ VRel P φ' av v ∧ Arr (H.ext l) ks.length av xs ∧ (∀ r ∈ xs, RowOf ks r) ∧ xs.length ≤ 9223372036854775807 := by
  rcases slice_forms ht hval with rfl | ⟨b, o, len, cap, rfl, hlc, hb⟩
  · exact ⟨φ, [], .nils, [], hw, hro, fun _ _ h => h, .nils, .inl ⟨rfl, rfl⟩, by simp, by simp⟩
  obtain ⟨fuel, hf⟩ := h
  rcases open_slice ht hf with ⟨hcs, _⟩ | ⟨a, len', cap', m, n, D, Pl, hcs, _, _, hmax, hm, _, hel⟩
  · simp [Value.cells] at hcs
  simp [Value.cells] at hcs
  obtain ⟨rfl, rfl, rfl⟩ := hcs
  simp only [if_true] at hm
  subst hm
  rcases Nat.eq_zero_or_pos m with h0 | h0
  · subst h0
    obtain rfl : len = 0 := by omega
    obtain ⟨hw1, hro1, hle⟩ := WRel.arg hw hro (a := ⟨b, o, 0⟩) (b := .dead) trivial hb (fun h => h)
    refine ⟨_, [.dead], .slice H.nx 0 0 ks.length true 0, [], hw1, hro1, hle, .sliceE _ _ _ _ ⟨b, o, 0⟩ o (Phi.put_same _ _ _), .inr ⟨H.nx, 0, true, 0, rfl, ?_, fun h => absurd rfl h⟩, by simp, by simp⟩
    rw [Heap.nx_ext, Heap.toNat_key]; simp
  · have key : ∀ i, (⟨b, o, none⟩ : Addr).add i = ⟨b, o + i, none⟩ := by
      intro i
      unfold Addr.add
      split
      · rename_i e; subst e; rfl
      · rfl
    have hel' : ∀ i, i < m → ∃ row c ty fr, W.heap[b]? = some (.cells c ty fr) ∧ o + i * ks.length + ks.length ≤ c.size ∧ (∀ φ, VRels P φ row ((c.toList.drop (o + i * ks.length)).take ks.length)) ∧ (∀ v ∈ (c.toList.drop (o + i * ks.length)).take ks.length, v.oneCell' = true) ∧ RowOf ks row := by
      intro i hi
      obtain ⟨cs', h1, h2⟩ := hel i hi
      rw [hce, key] at h1
      obtain ⟨c, ty, fr, hc, hsz, rfl⟩ := cells_at h1 hks
      obtain ⟨row, r1, _, r3, r4⟩ := hflat _ _ _ h2
      exact ⟨row, c, ty, fr, hc, hsz, r1, r3, r4⟩
    obtain ⟨_, c, ty, fr, hc, _⟩ := hel' 0 h0
    have hel2 : ∀ i, i < m → ∃ row, o + i * ks.length + ks.length ≤ c.size ∧ (∀ φ, VRels P φ row ((c.toList.drop (o + i * ks.length)).take ks.length)) ∧ (∀ v ∈ (c.toList.drop (o + i * ks.length)).take ks.length, v.oneCell' = true) ∧ RowOf ks row := by
      intro i hi
      obtain ⟨row, c', ty', fr', hc', h⟩ := hel' i hi
      rw [hc] at hc'; cases hc'
      exact ⟨row, h⟩
    have hrows : ∃ rows : List (List AV), rows.length = m ∧ ∀ (i : Nat) (row : List AV), rows[i]? = some row → o + i * ks.length + ks.length ≤ c.size ∧ (∀ φ, VRels P φ row ((c.toList.drop (o + i * ks.length)).take ks.length)) ∧ (∀ v ∈ (c.toList.drop (o + i * ks.length)).take ks.length, v.oneCell' = true) ∧ RowOf ks row := by
      refine ⟨List.ofFn (n := m) fun i => Classical.choose (hel2 i.1 i.2), by simp, fun i row hi => ?_⟩
      rw [List.getElem?_ofFn] at hi
      split at hi
      · rename_i hlt
        cases hi
        exact Classical.choose_spec (hel2 i hlt)
      · cases hi
    obtain ⟨rows, hrl, hr⟩ := hrows
    have hall : ∀ row ∈ rows, RowOf ks row := by
      intro row hrow
      obtain ⟨i, hi, rfl⟩ := List.mem_iff_getElem.1 hrow
      exact (hr i _ (List.getElem?_eq_getElem hi)).2.2.2
    have hsz : o + m * ks.length ≤ c.size := by
      have h1 := (hr (m - 1) _ (List.getElem?_eq_getElem (show m - 1 < rows.length by omega))).1
      have h2 : m * ks.length = (m - 1) * ks.length + ks.length := by
        rw [show m = m - 1 + 1 by omega, Nat.add_mul, Nat.one_mul, Nat.add_sub_cancel]
      omega
    have hdt : ∀ i, i < m → (((c.toList.drop o).take (m * ks.length)).drop (i * ks.length)).take ks.length = (c.toList.drop (o + i * ks.length)).take ks.length := by
      intro i hi
      have h2 : i * ks.length + ks.length ≤ m * ks.length := by
        have := Nat.mul_le_mul_right ks.length (show i + 1 ≤ m by omega)
        rwa [Nat.add_mul, Nat.one_mul] at this
      rw [List.drop_take, List.take_take, List.drop_drop, Nat.min_eq_left (by omega)]
    have hvl : ((c.toList.drop o).take (m * ks.length)).length = rows.length * ks.length := by
      have hcl : c.toList.length = c.size := Array.length_toList
      rw [List.length_take, List.length_drop, hcl, hrl]; omega
    have hblk : BlkRel P φ W ⟨b, o, c.size⟩ (.row false ks.length rows) := by
      refine ⟨hks, fun r hr => (hall r hr).1, c.toList.take o, (c.toList.drop o).take (m * ks.length), c.toList.drop (o + m * ks.length), ty, fr.1, fr.2, ?_, ?_, ?_, fun h => (by cases h), ?_, ?_, fun h => (by cases h)⟩
      · rw [hc]
        congr 2
        rw [List.append_assoc, ← List.drop_drop, List.take_append_drop, List.take_append_drop]
      · rw [List.length_take, Array.length_toList]; show min o c.size = o; omega
      · rw [List.append_assoc, ← List.drop_drop, List.take_append_drop, List.take_append_drop, Array.length_toList]
      · refine vrels_flat (fun r hr => (hall r hr).1) hvl fun i r hi => ?_
        have hlt : i < m := by rw [← hrl]; exact (List.getElem?_eq_some_iff.1 hi).1
        rw [hdt i hlt]
        exact (hr i r hi).2.1 φ
      · intro v hv
        obtain ⟨j, hj, rfl⟩ := List.mem_iff_getElem.1 hv
        rw [hvl] at hj
        have hq : j / ks.length < m := by rw [Nat.div_lt_iff_lt_mul hks, ← hrl]; exact hj
        have h3 := (hr (j / ks.length) _ (List.getElem?_eq_getElem (show j / ks.length < rows.length by omega))).2.2.1
        refine h3 _ ?_
        rw [← hdt _ hq]
        refine List.mem_iff_getElem?.2 ⟨j % ks.length, ?_⟩
        have e2 : j / ks.length * ks.length + j % ks.length = j := by rw [Nat.mul_comm]; exact Nat.div_add_mod ..
        rw [List.getElem?_take_of_lt (Nat.mod_lt _ hks), List.getElem?_drop, e2]
        exact List.getElem?_eq_getElem _
    obtain ⟨hw1, hro1, hle⟩ := WRel.arg hw hro (a := ⟨b, o, c.size⟩) (b := .row false ks.length rows) hblk hb (fun h => by cases h)
    have hxl : (rows.take len).length = len := by rw [List.length_take]; omega
    refine ⟨_, [.row false ks.length rows], .slice H.nx 0 len ks.length true m, rows.take len, hw1, hro1, hle, ?_, .inr ⟨H.nx, 0, true, m, by rw [hxl], ?_, fun _ => ⟨0, false, rows, by simp, ?_, ?_⟩⟩, fun r hr => hall r (List.mem_of_mem_take hr), ?_⟩
    · exact VRel.slice H.nx 0 len ks.length true m ⟨b, o, c.size⟩ m (Phi.put_same _ _ _) (fun _ => rfl) (Nat.le_refl _) hlc hsz
    · rw [Heap.nx_ext, Heap.toNat_key]; simp
    · rw [Heap.ext_one, Heap.get_add, if_pos rfl]
    · rw [List.drop_zero, hxl]
    · rw [hxl]; unfold maxLen at hmax; omega
end Go.Ev
/- Rows of arguments, opened: what all laws of this seat share. -/

set_option linter.all false
set_option maxRecDepth 100000
namespace Go.Ev
open Go.ChangeShapes Go.WideShapes Go.RowKit
variable {P : Program}
section
variable {HH : Type} {enc : TypeId × Value → HH} {W : World} {r : Reach} {base b0 : Nat} {sp : Nat → Bool} {held : Bool} {t : TypeId} {v : Value} {d : DataW HH} {p : List MemPlace}
theorem bool_of (ht : P.underlying t = some .bool) (h : Value.okWide P W r b0 t v) : ∃ b, v = .bool b := by
  simp only [Value.okWide, ht, Cell.okWide] at h
  cases v <;> simp_all [Cell.ok]
theorem open_cell {k : PK} (hk : k.ty P t) (hval : Value.okWide P W r b0 t v) (h : DataW.Trod enc P W base sp held t v d p) : ∃ av, (∀ φ, VRel P φ av v) ∧ KOf k av := by
  obtain ⟨fuel, hf⟩ := h
  obtain ⟨u, av, hcs, hv, ho, hko⟩ := open_prim hk hf
  have hv1 : v.cells.toList = [v] := by
    cases k with
    | str => obtain ⟨s, rfl⟩ := okWide_string hk hval; rfl
    | int k => obtain ⟨n, rfl⟩ := okWide_int hk hval; rfl
    | bool =>
      obtain ⟨b, rfl⟩ := bool_of hk hval
      rfl
  rw [hv1] at hcs
  cases hcs
  exact ⟨av, hv, hko⟩
theorem open_agg {ks : List PK} (hf : Flat P t ks) (hval : Value.okWide P W r b0 t v) (h : DataW.Trod enc P W base sp held t v d p) : ∃ row, (∀ φ, VRel P φ (.agg row) v) ∧ RowOf ks row := by
  obtain ⟨fuel, hff⟩ := h
  obtain ⟨row, h1, h2, h3, h4⟩ := open_flat hf hff
  obtain ⟨fs, ht, _⟩ := hf.st
  simp only [Value.okWide, ht] at hval
  obtain ⟨cs, rfl, _⟩ := hval
  exact ⟨row, fun φ => .agg _ _ (h1 φ) h3, h4⟩
end
end Go.Ev
namespace Go.Proofs
open Go Go.Ev
theorem row2 {k1 k2 : PK} {row : List AV} (h : RowOf [k1, k2] row) : ∃ a b, row = [a, b] ∧ KOf k1 a ∧ KOf k2 b := by
  obtain ⟨hl, h⟩ := h
  match row, hl with
  | [a, b], _ => exact ⟨a, b, rfl, h 0 _ _ rfl rfl, h 1 _ _ rfl rfl⟩
theorem row5 {k1 k2 k3 k4 k5 : PK} {row : List AV} (h : RowOf [k1, k2, k3, k4, k5] row) : ∃ a b c d e, row = [a, b, c, d, e] ∧ KOf k1 a ∧ KOf k2 b ∧ KOf k3 c ∧ KOf k4 d ∧ KOf k5 e := by
  obtain ⟨hl, h⟩ := h
  match row, hl with
  | [a, b, c, d, e], _ => exact ⟨a, b, c, d, e, rfl, h 0 _ _ rfl rfl, h 1 _ _ rfl rfl, h 2 _ _ rfl rfl, h 3 _ _ rfl rfl, h 4 _ _ rfl rfl⟩
end Go.Proofs
namespace Go.Ev
open Go.ChangeShapes Go.WideShapes Go.RowKit
variable {P : Program} {HH : Type} {enc : TypeId × Value → HH} {w : World} {base : Nat} {sp : Nat → Bool} {held : Bool} {n : Nat} {e : TypeId} {cs : List Value} {x : DataW HH × List MemPlace}
theorem open_one {k : PK} (hk : k.ty P e) (h : DataW.trod enc P w base sp held n e cs = some x) : ∃ row, (∀ φ, VRels P φ row cs) ∧ cs.length = [k].length ∧ (∀ v ∈ cs, v.oneCell' = true) ∧ RowOf [k] row := by
  obtain ⟨v, av, rfl, hv, ho, hk⟩ := open_prim hk h
  refine ⟨[av], fun φ => .cons _ _ _ _ (hv φ) .nil, rfl, by simpa using ho, rfl, ?_⟩
  intro i k' v' h1 h2
  match i, h1, h2 with
  | 0, h1, h2 => cases h1; cases h2; exact hk
end Go.Ev
namespace Go.Proofs
open Go Go.Ev
theorem row1 {k : PK} {row : List AV} (h : RowOf [k] row) : ∃ a, row = [a] ∧ KOf k a := by
  obtain ⟨hl, h⟩ := h
  match row, hl with
  | [a], _ => exact ⟨a, rfl, h 0 _ _ rfl rfl⟩
theorem bools_of : ∀ {rows : List (List AV)}, (∀ r ∈ rows, RowOf [.bool] r) → ∃ l : List Bool, rows = l.map fun d => [AV.bool d]
  | [], _ => ⟨[], rfl⟩
  | r :: rows, h => by
    obtain ⟨a, rfl, ha⟩ := row1 (h r (by simp))
    obtain ⟨l, rfl⟩ := bools_of (rows := rows) fun x hx => h x (by simp [hx])
    cases ha
    rename_i b
    exact ⟨b :: l, rfl⟩
end Go.Proofs
namespace Go.Proofs.Ytiadcabmonbgiaa
open Go Go.Ev Go.ChangeShapes Go.WideShapes Go.ChangeAt Go.RowKit
theorem Try.own : ownKnob Try.prog.godebug = none := by kernel_rfl
theorem Try.laidOut : laidOutB Try.prog = true := by kernel_rfl
end Go.Proofs.Ytiadcabmonbgiaa
