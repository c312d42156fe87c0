/- Small functions of keys, spans, cells, walked. -/
import Derived.Test.YtiadcabmonbgiaaZ8
set_option linter.all false
set_option maxRecDepth 100000
namespace Go.Proofs
open Go Go.Ev
variable {H : Heap}
theorem bool_t {p : Prop} [Decidable p] (h : p) : AV.bool true = .bool (decide p) := by rw [decide_eq_true h]
theorem bool_f {p : Prop} [Decidable p] (h : ¬p) : AV.bool false = .bool (decide p) := by rw [decide_eq_false h]
def isKey (k : List Nat) : Prop := ¬ k = [] ∧ (k.length : Int) ≤ 8
instance (k : List Nat) : Decidable (isKey k) := inferInstanceAs (Decidable (_ ∧ _))
theorem f59_ok (k : List Nat) : FnOk Try.prog 59 [.str k] H fun v G => v = .bool (decide (isKey k)) ∧ G = H := by
  refine FnOk.of_WW Try.func59 rfl C59ok R59ok E0 good_E0 ?_
  simp only [go_sem, C59, Nat.reduceAdd, Nat.reduceSub, Nat.reduceMul, Nat.reduceDiv, Nat.reduceMod, Nat.reduceEqDiff, Nat.reduceLeDiff, Nat.reduceLT, Int.reduceLT, Int.reduceLE, Int.reduceEq, Int.reduceToNat, reduceIte, reduceCtorEq]
  repeat' (first | apply And.intro | intro _)
  all_goals first | exact Heap.ext_nil H | simp_all [isKey]
theorem f52_ok (k : List Nat) : FnOk Try.prog 52 [.str k] H fun v G => v = .bool (decide (isKey k)) ∧ G = H := by
  refine FnOk.of_WW Try.func52 rfl C52ok R52ok E0 good_E0 ?_
  simp only [go_sem, C52, Nat.reduceAdd, Nat.reduceSub, Nat.reduceMul, Nat.reduceDiv, Nat.reduceMod, Nat.reduceEqDiff, Nat.reduceLeDiff, Nat.reduceLT, Int.reduceLT, Int.reduceLE, Int.reduceEq, Int.reduceToNat, reduceIte, reduceCtorEq]
  have hl : (1 : Int) ≤ (k.length : Int) ↔ ¬ k = [] := by cases k <;> simp; omega
  repeat' (first | apply And.intro | intro _)
  all_goals first | exact Heap.ext_nil H | simp_all [isKey]
def isSpan (f t : List Nat) : Prop := (f.length : Int) ≤ 8 ∧ (t.length : Int) ≤ 8 ∧ (t = [] ∨ ltS f t)
noncomputable instance (f t : List Nat) : Decidable (isSpan f t) := inferInstanceAs (Decidable (_ ∧ _))
theorem f65_ok (f t : List Nat) : FnOk Try.prog 65 [.agg [.str f, .str t]] H fun v G => v = .bool (decide (isSpan f t)) ∧ G = H := by
  refine FnOk.drop (R := fun v => v = .bool (decide (isSpan f t))) ?_ (by rintro v rfl ρ; rw [AV.ren])
  refine FnOk.of_WW Try.func65 rfl C65ok R65ok E0 good_E0 ?_
  simp only [go_sem, C65, Nat.reduceAdd, Nat.reduceSub, Nat.reduceMul, Nat.reduceDiv, Nat.reduceMod, Nat.reduceEqDiff, Nat.reduceLeDiff, Nat.reduceLT, Int.reduceLT, Int.reduceLE, Int.reduceEq, Int.reduceToNat, reduceIte, reduceCtorEq, not_leS]
  repeat' (first | apply And.intro | intro _)
  all_goals first | exact ⟨_, rfl⟩ | exact bool_t (by unfold isSpan; grind) | exact bool_f (by unfold isSpan; grind)
theorem f63_ok (f t : List Nat) : FnOk Try.prog 63 [.agg [.str f, .str t]] H fun v G => v = .bool (decide (isSpan f t)) ∧ G = H := by
  refine FnOk.drop (R := fun v => v = .bool (decide (isSpan f t))) ?_ (by rintro v rfl ρ; rw [AV.ren])
  refine FnOk.of_WW Try.func63 rfl C63ok R63ok E0 good_E0 ?_
  simp only [go_sem, C63, Nat.reduceAdd, Nat.reduceSub, Nat.reduceMul, Nat.reduceDiv, Nat.reduceMod, Nat.reduceEqDiff, Nat.reduceLeDiff, Nat.reduceLT, Int.reduceLT, Int.reduceLE, Int.reduceEq, Int.reduceToNat, reduceIte, reduceCtorEq, not_leS]
  repeat' (first | apply And.intro | intro _)
  all_goals first | exact ⟨_, rfl⟩ | exact bool_t (by unfold isSpan; grind) | exact bool_f (by unfold isSpan; grind)
def mayBe (k v : List Nat) (n : Int) (d : Bool) : Prop := isKey k ∧ (v.length : Int) ≤ 12 ∧ (d = true → v = []) ∧ 1 ≤ n ∧ n ≤ 1000000000000
instance (k v : List Nat) (n : Int) (d : Bool) : Decidable (mayBe k v n d) := inferInstanceAs (Decidable (_ ∧ _))
theorem f64_ok (f t : List Nat) (v : Int) (d : Bool) : FnOk Try.prog 64 [.str f, .str t, .int .i64 v, .bool d] H fun r G => r = .bool (decide (mayBe f t v d)) ∧ G = H := by
  refine FnOk.of_WW Try.func64 rfl C64ok R64ok E0 good_E0 ?_
  cases d
  all_goals simp only [go_sem, C64, Nat.reduceAdd, Nat.reduceSub, Nat.reduceMul, Nat.reduceDiv, Nat.reduceMod, Nat.reduceEqDiff, Nat.reduceLeDiff, Nat.reduceLT, Int.reduceLT, Int.reduceLE, Int.reduceEq, Int.reduceToNat, reduceIte, reduceCtorEq]
  all_goals refine CL.bool (f59_ok _) (fun h1 => ?_) (fun h1 => ?_)
  all_goals simp only [go_sem, Nat.reduceAdd, Nat.reduceSub, Nat.reduceMul, Nat.reduceDiv, Nat.reduceMod, Nat.reduceEqDiff, Nat.reduceLeDiff, Nat.reduceLT, Int.reduceLT, Int.reduceLE, Int.reduceEq, Int.reduceToNat, reduceIte, reduceCtorEq]
  all_goals repeat' (first | apply And.intro | intro _)
  all_goals first | exact Heap.ext_nil H | exact bool_t (by unfold mayBe; grind) | exact bool_f (by unfold mayBe; grind)

structure Cell where
  key : List Nat
  value : List Nat
  ver : Int
  del : Bool
  floor : Int
  deriving DecidableEq
def Cell.enc (c : Cell) : List AV := [.str c.key, .str c.value, .int .i64 c.ver, .bool c.del, .int .i64 c.floor]
@[go_sem] theorem Cell.rens (ρ : K → K) (c : Cell) : AV.rens ρ c.enc = c.enc := by simp only [Cell.enc, AV.rens, AV.ren]
theorem Cell.map_rens (ρ : K → K) (l : List Cell) : (l.map Cell.enc).map (AV.rens ρ) = l.map Cell.enc := by
  rw [List.map_map]; exact List.map_congr_left fun c _ => Cell.rens ρ c
theorem f45_ok (c : Cell) : FnOk Try.prog 45 [.agg c.enc] H fun v G => v = .bool (decide (0 < c.ver ∧ c.del = false)) ∧ G = H := by
  refine FnOk.drop (R := fun v => v = .bool (decide (0 < c.ver ∧ c.del = false))) ?_ (by rintro v rfl ρ; rw [AV.ren])
  refine FnOk.of_WW Try.func45 rfl C45ok R45ok E0 good_E0 ?_
  simp only [go_sem, C45, Cell.enc, Nat.reduceAdd, Nat.reduceSub, Nat.reduceMul, Nat.reduceDiv, Nat.reduceMod, Nat.reduceEqDiff, Nat.reduceLeDiff, Nat.reduceLT, Int.reduceLT, Int.reduceLE, Int.reduceEq, Int.reduceToNat, reduceIte, reduceCtorEq]
  repeat' (first | apply And.intro | intro _)
  all_goals first | exact ⟨_, rfl⟩ | (cases h : c.del <;> simp_all)
theorem f47_ok (c : Cell) : FnOk Try.prog 47 [.agg c.enc] H fun v G => v = .bool (decide (0 < c.ver ∧ c.del = false)) ∧ G = H := by
  refine FnOk.drop (R := fun v => v = .bool (decide (0 < c.ver ∧ c.del = false))) ?_ (by rintro v rfl ρ; rw [AV.ren])
  refine FnOk.of_WW Try.func47 rfl C47ok R47ok E0 good_E0 ?_
  simp only [go_sem, C47, Cell.enc, Nat.reduceAdd, Nat.reduceSub, Nat.reduceMul, Nat.reduceDiv, Nat.reduceMod, Nat.reduceEqDiff, Nat.reduceLeDiff, Nat.reduceLT, Int.reduceLT, Int.reduceLE, Int.reduceEq, Int.reduceToNat, reduceIte, reduceCtorEq]
  repeat' (first | apply And.intro | intro _)
  all_goals first | exact ⟨_, rfl⟩ | (cases h : c.del <;> simp_all)
def has (f t k : List Nat) : Prop := isSpan f t ∧ isKey k ∧ ¬ ltS k f ∧ (t = [] ∨ ltS k t)
noncomputable instance (f t k : List Nat) : Decidable (has f t k) := inferInstanceAs (Decidable (_ ∧ _))
theorem f49_ok (f t k : List Nat) : FnOk Try.prog 49 [.agg [.str f, .str t], .str k] H fun v G => v = .bool (decide (has f t k)) ∧ G = H := by
  refine FnOk.drop (R := fun v => v = .bool (decide (has f t k))) ?_ (by rintro v rfl ρ; rw [AV.ren])
  refine FnOk.of_WW Try.func49 rfl C49ok R49ok E0 good_E0 ?_
  simp only [go_sem, C49, Nat.reduceAdd, Nat.reduceSub, Nat.reduceMul, Nat.reduceDiv, Nat.reduceMod, Nat.reduceEqDiff, Nat.reduceLeDiff, Nat.reduceLT, Int.reduceLT, Int.reduceLE, Int.reduceEq, Int.reduceToNat, reduceIte, reduceCtorEq]
  refine CL.bool (f65_ok _ _) (fun h1 => ?_) (fun h1 => ?_)
  all_goals simp only [go_sem, Nat.reduceAdd, Nat.reduceSub, Nat.reduceMul, Nat.reduceDiv, Nat.reduceMod, Nat.reduceEqDiff, Nat.reduceLeDiff, Nat.reduceLT, Int.reduceLT, Int.reduceLE, Int.reduceEq, Int.reduceToNat, reduceIte, reduceCtorEq]
  · refine CL.bool (f59_ok _) (fun h2 => ?_) (fun h2 => ?_)
    all_goals simp only [go_sem, Nat.reduceAdd, Nat.reduceSub, Nat.reduceMul, Nat.reduceDiv, Nat.reduceMod, Nat.reduceEqDiff, Nat.reduceLeDiff, Nat.reduceLT, Int.reduceLT, Int.reduceLE, Int.reduceEq, Int.reduceToNat, reduceIte, reduceCtorEq]
    all_goals repeat' (first | apply And.intro | intro _)
    all_goals first | exact ⟨_, rfl⟩ | exact bool_t (by unfold has; grind) | exact bool_f (by unfold has; grind)
  · exact ⟨bool_f (by unfold has; grind), _, rfl⟩
theorem f46_ok (f t k : List Nat) : FnOk Try.prog 46 [.agg [.str f, .str t], .str k] H fun v G => v = .bool (decide (has f t k)) ∧ G = H := by
  refine FnOk.drop (R := fun v => v = .bool (decide (has f t k))) ?_ (by rintro v rfl ρ; rw [AV.ren])
  refine FnOk.of_WW Try.func46 rfl C46ok R46ok E0 good_E0 ?_
  simp only [go_sem, C46, Nat.reduceAdd, Nat.reduceSub, Nat.reduceMul, Nat.reduceDiv, Nat.reduceMod, Nat.reduceEqDiff, Nat.reduceLeDiff, Nat.reduceLT, Int.reduceLT, Int.reduceLE, Int.reduceEq, Int.reduceToNat, reduceIte, reduceCtorEq]
  refine CL.bool (f63_ok _ _) (fun h1 => ?_) (fun h1 => ?_)
  all_goals simp only [go_sem, Nat.reduceAdd, Nat.reduceSub, Nat.reduceMul, Nat.reduceDiv, Nat.reduceMod, Nat.reduceEqDiff, Nat.reduceLeDiff, Nat.reduceLT, Int.reduceLT, Int.reduceLE, Int.reduceEq, Int.reduceToNat, reduceIte, reduceCtorEq]
  · refine CL.bool (f52_ok _) (fun h2 => ?_) (fun h2 => ?_)
    all_goals simp only [go_sem, Nat.reduceAdd, Nat.reduceSub, Nat.reduceMul, Nat.reduceDiv, Nat.reduceMod, Nat.reduceEqDiff, Nat.reduceLeDiff, Nat.reduceLT, Int.reduceLT, Int.reduceLE, Int.reduceEq, Int.reduceToNat, reduceIte, reduceCtorEq]
    all_goals repeat' (first | apply And.intro | intro _)
    all_goals first | exact ⟨_, rfl⟩ | exact bool_t (by unfold has; grind) | exact bool_f (by unfold has; grind)
  · exact ⟨bool_f (by unfold has; grind), _, rfl⟩
def cellIs (c : Cell) : Prop := mayBe c.key c.value c.ver c.del ∧ 0 ≤ c.floor ∧ c.floor ≤ c.ver
instance (c : Cell) : Decidable (cellIs c) := inferInstanceAs (Decidable (_ ∧ _))
theorem f48_ok (c : Cell) : FnOk Try.prog 48 [.agg c.enc] H fun v G => v = .bool (decide (cellIs c)) ∧ G = H := by
  refine FnOk.drop (R := fun v => v = .bool (decide (cellIs c))) ?_ (by rintro v rfl ρ; rw [AV.ren])
  refine FnOk.of_WW Try.func48 rfl C48ok R48ok E0 good_E0 ?_
  simp only [go_sem, C48, Cell.enc, Nat.reduceAdd, Nat.reduceSub, Nat.reduceMul, Nat.reduceDiv, Nat.reduceMod, Nat.reduceEqDiff, Nat.reduceLeDiff, Nat.reduceLT, Int.reduceLT, Int.reduceLE, Int.reduceEq, Int.reduceToNat, reduceIte, reduceCtorEq]
  refine CL.bool (f64_ok _ _ _ _) (fun h1 => ?_) (fun h1 => ?_)
  all_goals simp only [go_sem, Nat.reduceAdd, Nat.reduceSub, Nat.reduceMul, Nat.reduceDiv, Nat.reduceMod, Nat.reduceEqDiff, Nat.reduceLeDiff, Nat.reduceLT, Int.reduceLT, Int.reduceLE, Int.reduceEq, Int.reduceToNat, reduceIte, reduceCtorEq]
  all_goals repeat' (first | apply And.intro | intro _)
  all_goals first | exact ⟨_, rfl⟩ | exact bool_t (by unfold cellIs; grind) | exact bool_f (by unfold cellIs; grind)
theorem f24_ok (c : Cell) : FnOk Try.prog 24 [.agg c.enc] H fun v G => v = .bool (decide (cellIs c)) ∧ G = H := by
  refine FnOk.drop (R := fun v => v = .bool (decide (cellIs c))) ?_ (by rintro v rfl ρ; rw [AV.ren])
  refine FnOk.of_WW Try.func24 rfl C24ok R24ok E0 good_E0 ?_
  obtain ⟨key, value, ver, del, floor⟩ := c
  cases del
  all_goals simp only [go_sem, C24, Cell.enc, Nat.reduceAdd, Nat.reduceSub, Nat.reduceMul, Nat.reduceDiv, Nat.reduceMod, Nat.reduceEqDiff, Nat.reduceLeDiff, Nat.reduceLT, Int.reduceLT, Int.reduceLE, Int.reduceEq, Int.reduceToNat, reduceIte, reduceCtorEq]
  all_goals refine CL.bool (f52_ok _) (fun h1 => ?_) (fun h1 => ?_)
  all_goals simp only [go_sem, Nat.reduceAdd, Nat.reduceSub, Nat.reduceMul, Nat.reduceDiv, Nat.reduceMod, Nat.reduceEqDiff, Nat.reduceLeDiff, Nat.reduceLT, Int.reduceLT, Int.reduceLE, Int.reduceEq, Int.reduceToNat, reduceIte, reduceCtorEq]
  all_goals repeat' (first | apply And.intro | intro _)
  all_goals first | exact ⟨_, rfl⟩ | exact bool_t (by unfold cellIs mayBe; grind) | exact bool_f (by unfold cellIs mayBe; grind)
end Go.Proofs
/- index: Get, walked. -/

set_option linter.all false
set_option maxRecDepth 100000
namespace Go.Proofs
open Go Go.Ev
variable {H : Heap}
def Cell.zero : Cell := ⟨[], [], 0, false, 0⟩
def getL (l : List Cell) (key : List Nat) : Cell × Bool := match l with
  | [] => (⟨key, [], 0, false, 0⟩, false)
  | c :: l => if c.key = key then (c, true) else getL l key
theorem getL_at {key : List Nat} : ∀ {l : List Cell} {i : Nat} {c : Cell}, (∀ x ∈ l.take i, x.key ≠ key) → l[i]? = some c → c.key = key → getL l key = (c, true)
  | [], i, c, _, h, _ => by simp at h
  | x :: l, 0, c, _, h, hc => by simp at h; subst h; rw [getL, if_pos hc]
  | x :: l, i + 1, c, hn, h, hc => by
    rw [getL, if_neg (hn x (by simp))]
    exact getL_at (i := i) (fun y hy => hn y (by simp [hy])) (by simpa using h) hc
theorem getL_none {key : List Nat} : ∀ {l : List Cell}, (∀ x ∈ l, x.key ≠ key) → getL l key = (⟨key, [], 0, false, 0⟩, false)
  | [], _ => rfl
  | x :: l, h => by rw [getL, if_neg (h x (by simp))]; exact getL_none fun y hy => h y (by simp [hy])
theorem take_all {α : Type} {l : List α} {i : Nat} (h : l.length ≤ i) : l.take i = l := List.take_of_length_le h
theorem take_next {α : Type} {l : List α} {i : Nat} {c : α} (h : l[i]? = some c) : l.take (i + 1) = l.take i ++ [c] := by
  rw [List.take_succ, h]; rfl


theorem f13_ok {v : AV} {l : List Cell} (hA : Arr H 5 v (l.map Cell.enc)) (hl : l.length < 4294967296) (key : List Nat) :
    FnOk Try.prog 13 [v, .str key] H fun r G => r = .tup [.agg (getL l key).1.enc, .bool (getL l key).2] ∧ G = H := by
  refine FnOk.assume fun hok => ?_
  refine FnOk.drop (R := fun r => r = .tup [.agg (getL l key).1.enc, .bool (getL l key).2]) ?_ (by rintro v rfl ρ; simp only [AV.ren, AV.rens, Cell.rens])
  refine FnOk.of_WW Try.func13 rfl C13ok R13ok E0 good_E0 ?_
  rcases hA.forms with ⟨rfl, hnil⟩ | ⟨k, off, ex, cap, rfl, hrho⟩
  · have hn0 : l.length = 0 := by simpa using hnil
    simp only [go_sem, C13, Nat.reduceAdd, Nat.reduceSub, Nat.reduceMul, Nat.reduceDiv, Nat.reduceMod, Nat.reduceEqDiff, Nat.reduceLeDiff, Nat.reduceLT, Int.reduceLT, Int.reduceLE, Int.reduceEq, Int.reduceToNat, reduceIte, reduceCtorEq]
    refine LL.st good_E0 (fun i : Nat => l.length - i) (fun i => i ≤ l.length ∧ ∀ x ∈ l.take i, x.key ≠ key)
      (fun i => [(.o .z, .str key), (.i (.o .z), .ptr (H.key 0) 0), (.i (.o (.o .z)), .nils), (.o (.i (.o .z)), .int .i64 l.length), (.i (.i (.o .z)), .int .i64 i)])
      (fun i => [.row true 5 [[.str [], .str [], .int .i64 0, .bool false, .int .i64 0]]]) ?_ 0 (σ := [0]) (Wk.mk' rfl (by decide) (by simp only [go_sem, List.length_map, hn0, Nat.reduceAdd, Nat.reduceSub, Nat.reduceMul, Nat.reduceDiv, Nat.reduceMod, Nat.reduceEqDiff, Nat.reduceLeDiff, Nat.reduceLT, Int.reduceLT, Int.reduceLE, Int.reduceEq, Int.reduceToNat, reduceIte, reduceCtorEq]) (by simp only [go_sem, List.length_map, hn0, Nat.reduceAdd, Nat.reduceSub, Nat.reduceMul, Nat.reduceDiv, Nat.reduceMod, Nat.reduceEqDiff, Nat.reduceLeDiff, Nat.reduceLT, Int.reduceLT, Int.reduceLE, Int.reduceEq, Int.reduceToNat, reduceIte, reduceCtorEq])) ⟨by omega, by simp⟩
    rintro i ⟨hi, hno⟩
    by_cases hlt : i < l.length
    · exact absurd hlt (by omega)
    · have hci : ¬ (i : Int) < (l.length : Int) := by omega
      have := getL_none (l := l) (key := key) (by rw [take_all (by omega)] at hno; exact hno)
      simp only [go_sem, C13L0, Nat.reduceAdd, Nat.reduceSub, Nat.reduceMul, Nat.reduceDiv, Nat.reduceMod, Nat.reduceEqDiff, Nat.reduceLeDiff, Nat.reduceLT, Int.reduceLT, Int.reduceLE, Int.reduceEq, Int.reduceToNat, reduceIte, reduceCtorEq, hci]
      rw [this]
      exact ⟨rfl, _, rfl⟩
  · have hn0 : True := trivial
    simp only [go_sem, C13, Nat.reduceAdd, Nat.reduceSub, Nat.reduceMul, Nat.reduceDiv, Nat.reduceMod, Nat.reduceEqDiff, Nat.reduceLeDiff, Nat.reduceLT, Int.reduceLT, Int.reduceLE, Int.reduceEq, Int.reduceToNat, reduceIte, reduceCtorEq]
    refine LL.st good_E0 (fun i : Nat => l.length - i) (fun i => i ≤ l.length ∧ ∀ x ∈ l.take i, x.key ≠ key)
      (fun i => [(.o .z, .str key), (.i (.o .z), .ptr (H.key 0) 0), (.i (.o (.o .z)), .slice k off (l.map Cell.enc).length 5 ex cap), (.o (.i (.o .z)), .int .i64 l.length), (.i (.i (.o .z)), .int .i64 i)])
      (fun i => [.row true 5 [[.str [], .str [], .int .i64 0, .bool false, .int .i64 0]]]) ?_ 0 (σ := [0]) (Wk.mk' rfl (by decide) (by simp only [go_sem, List.length_map, hrho, Nat.reduceAdd, Nat.reduceSub, Nat.reduceMul, Nat.reduceDiv, Nat.reduceMod, Nat.reduceEqDiff, Nat.reduceLeDiff, Nat.reduceLT, Int.reduceLT, Int.reduceLE, Int.reduceEq, Int.reduceToNat, reduceIte, reduceCtorEq]) (by simp only [go_sem, List.length_map, hrho, Nat.reduceAdd, Nat.reduceSub, Nat.reduceMul, Nat.reduceDiv, Nat.reduceMod, Nat.reduceEqDiff, Nat.reduceLeDiff, Nat.reduceLT, Int.reduceLT, Int.reduceLE, Int.reduceEq, Int.reduceToNat, reduceIte, reduceCtorEq])) ⟨by omega, by simp⟩
    rintro i ⟨hi, hno⟩
    by_cases hlt : i < l.length
    · obtain ⟨kk, r, ex', cap', wr, rows, hv, hk, hg, _, hat⟩ := hA.pick (j := i) (by simpa using hlt)
      have hrow := hat i (by simpa using hlt)
      have hgo := Heap.get_ext_old hok hg
      have hw := wrap_succ (n := i) (by omega)
      have hci : (i : Int) < (l.length : Int) := by omega
      have hsi : i + 1 ≤ l.length := by omega
      cases hv
      simp only [go_sem, C13L0, Nat.reduceAdd, Nat.reduceSub, Nat.reduceMul, Nat.reduceDiv, Nat.reduceMod, Nat.reduceEqDiff, Nat.reduceLeDiff, Nat.reduceLT, Int.reduceLT, Int.reduceLE, Int.reduceEq, Int.reduceToNat, reduceIte, reduceCtorEq, List.length_map, hw, hgo, hrow, hci, hsi, List.getElem?_eq_getElem hlt, Cell.enc]
      have hget : l[i]? = some l[i] := List.getElem?_eq_getElem hlt
      refine ⟨fun he => ?_, fun he => ?_⟩
      · have := getL_at hno hget he
        rw [this]
        exact ⟨rfl, _, rfl⟩
      · refine ⟨i + 1, by show l.length - (i + 1) < l.length - i; omega, ⟨by omega, ?_⟩, _, [0], rfl, Wk.mk' rfl (by decide) (by simp only [go_sem, hrho, List.length_map, Nat.reduceAdd, Nat.reduceSub, Nat.reduceMul, Nat.reduceDiv, Nat.reduceMod, Nat.reduceEqDiff, Nat.reduceLeDiff, Nat.reduceLT, Int.reduceLT, Int.reduceLE, Int.reduceEq, Int.reduceToNat, reduceIte, reduceCtorEq]) (by simp only [go_sem, hrho, List.length_map, Nat.reduceAdd, Nat.reduceSub, Nat.reduceMul, Nat.reduceDiv, Nat.reduceMod, Nat.reduceEqDiff, Nat.reduceLeDiff, Nat.reduceLT, Int.reduceLT, Int.reduceLE, Int.reduceEq, Int.reduceToNat, reduceIte, reduceCtorEq])⟩
        rw [take_next hget]
        intro x hx
        rcases List.mem_append.1 hx with h | h
        · exact hno x h
        · simp only [List.mem_singleton] at h; subst h; exact he
    · have hci : ¬ (i : Int) < (l.length : Int) := by omega
      have := getL_none (l := l) (key := key) (by rw [take_all (by omega)] at hno; exact hno)
      simp only [go_sem, C13L0, Nat.reduceAdd, Nat.reduceSub, Nat.reduceMul, Nat.reduceDiv, Nat.reduceMod, Nat.reduceEqDiff, Nat.reduceLeDiff, Nat.reduceLT, Int.reduceLT, Int.reduceLE, Int.reduceEq, Int.reduceToNat, reduceIte, reduceCtorEq, hci]
      rw [this]
      exact ⟨rfl, _, rfl⟩
end Go.Proofs
/- index: loops that only read, walked. -/

set_option linter.all false
set_option maxRecDepth 100000
namespace Go.Proofs
open Go Go.Ev
variable {H : Heap}

theorem f14_ok {v : AV} {l : List Cell} (hA : Arr H 5 v (l.map Cell.enc)) (hl : l.length < 4294967296) (key : List Nat) :
    FnOk Try.prog 14 [v, .str key] H fun r G => r = .tup [.agg (getL l key).1.enc, .bool (getL l key).2] ∧ G = H := by
  refine FnOk.assume fun hok => ?_
  refine FnOk.drop (R := fun r => r = .tup [.agg (getL l key).1.enc, .bool (getL l key).2]) ?_ (by rintro v rfl ρ; simp only [AV.ren, AV.rens, Cell.rens])
  refine FnOk.of_WW Try.func14 rfl C14ok R14ok E0 good_E0 ?_
  rcases hA.forms with ⟨rfl, hnil⟩ | ⟨k, off, ex, cap, rfl, hrho⟩
  · have hn0 : l.length = 0 := by simpa using hnil
    simp only [go_sem, C14, Nat.reduceAdd, Nat.reduceSub, Nat.reduceMul, Nat.reduceDiv, Nat.reduceMod, Nat.reduceEqDiff, Nat.reduceLeDiff, Nat.reduceLT, Int.reduceLT, Int.reduceLE, Int.reduceEq, Int.reduceToNat, reduceIte, reduceCtorEq]
    refine LL.st good_E0 (fun i : Nat => l.length - i) (fun i => i ≤ l.length ∧ ∀ x ∈ l.take i, x.key ≠ key)
      (fun i => [(.z, .nils), ((.o .z), .str key), ((.i (.o .z)), .ptr (H.key 0) 0), ((.i (.i .z)), .int .i64 i)])
      (fun i => [.row true 5 [[.str [], .str [], .int .i64 0, .bool false, .int .i64 0]]]) ?_ 0 (σ := [0]) (Wk.mk' rfl (by decide) (by simp only [go_sem, List.length_map, hn0, Nat.reduceAdd, Nat.reduceSub, Nat.reduceMul, Nat.reduceDiv, Nat.reduceMod, Nat.reduceEqDiff, Nat.reduceLeDiff, Nat.reduceLT, Int.reduceLT, Int.reduceLE, Int.reduceEq, Int.reduceToNat, reduceIte, reduceCtorEq]) (by simp only [go_sem, List.length_map, hn0, Nat.reduceAdd, Nat.reduceSub, Nat.reduceMul, Nat.reduceDiv, Nat.reduceMod, Nat.reduceEqDiff, Nat.reduceLeDiff, Nat.reduceLT, Int.reduceLT, Int.reduceLE, Int.reduceEq, Int.reduceToNat, reduceIte, reduceCtorEq])) ⟨by omega, by simp⟩
    rintro i ⟨hi, hno⟩
    by_cases hlt : i < l.length
    · exact absurd hlt (by omega)
    · have hci : ¬ (i : Int) < (l.length : Int) := by omega
      have := getL_none (l := l) (key := key) (by rw [take_all (by omega)] at hno; exact hno)
      simp only [go_sem, C14L0, Nat.reduceAdd, Nat.reduceSub, Nat.reduceMul, Nat.reduceDiv, Nat.reduceMod, Nat.reduceEqDiff, Nat.reduceLeDiff, Nat.reduceLT, Int.reduceLT, Int.reduceLE, Int.reduceEq, Int.reduceToNat, reduceIte, reduceCtorEq, List.length_map, hci, show ¬ (i : Int) < 0 by omega]
      rw [this]
      exact ⟨rfl, _, rfl⟩
  · simp only [go_sem, C14, Nat.reduceAdd, Nat.reduceSub, Nat.reduceMul, Nat.reduceDiv, Nat.reduceMod, Nat.reduceEqDiff, Nat.reduceLeDiff, Nat.reduceLT, Int.reduceLT, Int.reduceLE, Int.reduceEq, Int.reduceToNat, reduceIte, reduceCtorEq]
    refine LL.st good_E0 (fun i : Nat => l.length - i) (fun i => i ≤ l.length ∧ ∀ x ∈ l.take i, x.key ≠ key)
      (fun i => [(.z, .slice k off (l.map Cell.enc).length 5 ex cap), ((.o .z), .str key), ((.i (.o .z)), .ptr (H.key 0) 0), ((.i (.i .z)), .int .i64 i)])
      (fun i => [.row true 5 [[.str [], .str [], .int .i64 0, .bool false, .int .i64 0]]]) ?_ 0 (σ := [0]) (Wk.mk' rfl (by decide) (by simp only [go_sem, List.length_map, hrho, Nat.reduceAdd, Nat.reduceSub, Nat.reduceMul, Nat.reduceDiv, Nat.reduceMod, Nat.reduceEqDiff, Nat.reduceLeDiff, Nat.reduceLT, Int.reduceLT, Int.reduceLE, Int.reduceEq, Int.reduceToNat, reduceIte, reduceCtorEq]) (by simp only [go_sem, List.length_map, hrho, Nat.reduceAdd, Nat.reduceSub, Nat.reduceMul, Nat.reduceDiv, Nat.reduceMod, Nat.reduceEqDiff, Nat.reduceLeDiff, Nat.reduceLT, Int.reduceLT, Int.reduceLE, Int.reduceEq, Int.reduceToNat, reduceIte, reduceCtorEq])) ⟨by omega, by simp⟩
    rintro i ⟨hi, hno⟩
    by_cases hlt : i < l.length
    · obtain ⟨kk, r, ex', cap', wr, rows, hv, hk, hg, _, hat⟩ := hA.pick (j := i) (by simpa using hlt)
      have hrow := hat i (by simpa using hlt)
      have hgo := Heap.get_ext_old hok hg
      have hw := wrap_succ (n := i) (by omega)
      have hci : (i : Int) < (l.length : Int) := by omega
      have hsi : i + 1 ≤ l.length := by omega
      have hget : l[i]? = some l[i] := List.getElem?_eq_getElem hlt
      cases hv
      simp only [go_sem, C14L0, Nat.reduceAdd, Nat.reduceSub, Nat.reduceMul, Nat.reduceDiv, Nat.reduceMod, Nat.reduceEqDiff, Nat.reduceLeDiff, Nat.reduceLT, Int.reduceLT, Int.reduceLE, Int.reduceEq, Int.reduceToNat, reduceIte, reduceCtorEq, List.length_map, hw, hgo, hrow, hci, hsi, List.getElem?_eq_getElem hlt, Cell.enc]
      refine ⟨fun he => ?_, fun he => ?_⟩
      · have := getL_at hno hget he
        rw [this]
        exact ⟨rfl, _, rfl⟩
      · refine ⟨i + 1, by show l.length - (i + 1) < l.length - i; omega, ⟨by omega, ?_⟩, _, [0], rfl, Wk.mk' rfl (by decide) (by simp only [go_sem, hrho, List.length_map, Nat.reduceAdd, Nat.reduceSub, Nat.reduceMul, Nat.reduceDiv, Nat.reduceMod, Nat.reduceEqDiff, Nat.reduceLeDiff, Nat.reduceLT, Int.reduceLT, Int.reduceLE, Int.reduceEq, Int.reduceToNat, reduceIte, reduceCtorEq]) (by simp only [go_sem, hrho, List.length_map, Nat.reduceAdd, Nat.reduceSub, Nat.reduceMul, Nat.reduceDiv, Nat.reduceMod, Nat.reduceEqDiff, Nat.reduceLeDiff, Nat.reduceLT, Int.reduceLT, Int.reduceLE, Int.reduceEq, Int.reduceToNat, reduceIte, reduceCtorEq])⟩
        rw [take_next hget]
        intro x hx
        rcases List.mem_append.1 hx with h | h
        · exact hno x h
        · simp only [List.mem_singleton] at h; subst h; exact he
    · have hci : ¬ (i : Int) < (l.length : Int) := by omega
      have := getL_none (l := l) (key := key) (by rw [take_all (by omega)] at hno; exact hno)
      simp only [go_sem, C14L0, Nat.reduceAdd, Nat.reduceSub, Nat.reduceMul, Nat.reduceDiv, Nat.reduceMod, Nat.reduceEqDiff, Nat.reduceLeDiff, Nat.reduceLT, Int.reduceLT, Int.reduceLE, Int.reduceEq, Int.reduceToNat, reduceIte, reduceCtorEq, List.length_map, hci]
      rw [this]
      exact ⟨rfl, _, rfl⟩

def few (l : List Cell) : Prop := (∀ c ∈ l, (c.key.length : Int) ≤ 20 ∧ (c.value.length : Int) ≤ 40) ∧ (l.length : Int) ≤ 30
instance (l : List Cell) : Decidable (few l) := inferInstanceAs (Decidable (_ ∧ _))

theorem f12_ok {v : AV} {l : List Cell} (hA : Arr H 5 v (l.map Cell.enc)) (hl : l.length ≤ 9223372036854775807) :
    FnOk Try.prog 12 [v] H fun r G => r = .bool (decide (few l)) ∧ G = H := by
  refine FnOk.assume fun hok => ?_
  refine FnOk.drop (R := fun r => r = .bool (decide (few l))) ?_ (by rintro v rfl ρ; rw [AV.ren])
  refine FnOk.of_WW Try.func12 rfl C12ok R12ok E0 good_E0 ?_
  rcases hA.forms with ⟨rfl, hnil⟩ | ⟨k, off, ex, cap, rfl, hrho⟩
  · have hn0 : l.length = 0 := by simpa using hnil
    simp only [go_sem, C12, Nat.reduceAdd, Nat.reduceSub, Nat.reduceMul, Nat.reduceDiv, Nat.reduceMod, Nat.reduceEqDiff, Nat.reduceLeDiff, Nat.reduceLT, Int.reduceLT, Int.reduceLE, Int.reduceEq, Int.reduceToNat, reduceIte, reduceCtorEq]
    refine LL.st good_E0 (fun i : Nat => l.length - i) (fun i => i ≤ l.length ∧ ∀ c ∈ l.take i, (c.key.length : Int) ≤ 20 ∧ (c.value.length : Int) ≤ 40)
      (fun i => [(.z, .nils), ((.o (.o .z)), .int .i64 i)])
      (fun i => []) ?_ 0 (σ := []) (Wk.mk' rfl (by decide) (by simp only [go_sem, List.length_map, hn0, Nat.reduceAdd, Nat.reduceSub, Nat.reduceMul, Nat.reduceDiv, Nat.reduceMod, Nat.reduceEqDiff, Nat.reduceLeDiff, Nat.reduceLT, Int.reduceLT, Int.reduceLE, Int.reduceEq, Int.reduceToNat, reduceIte, reduceCtorEq]) (by simp only [go_sem, List.length_map, hn0, Nat.reduceAdd, Nat.reduceSub, Nat.reduceMul, Nat.reduceDiv, Nat.reduceMod, Nat.reduceEqDiff, Nat.reduceLeDiff, Nat.reduceLT, Int.reduceLT, Int.reduceLE, Int.reduceEq, Int.reduceToNat, reduceIte, reduceCtorEq])) ⟨by omega, by simp⟩
    rintro i ⟨hi, hno⟩
    by_cases hlt : i < l.length
    · exact absurd hlt (by omega)
    · have hci : ¬ (i : Int) < (l.length : Int) := by omega
      rw [take_all (by omega)] at hno
      simp only [go_sem, C12L0, Nat.reduceAdd, Nat.reduceSub, Nat.reduceMul, Nat.reduceDiv, Nat.reduceMod, Nat.reduceEqDiff, Nat.reduceLeDiff, Nat.reduceLT, Int.reduceLT, Int.reduceLE, Int.reduceEq, Int.reduceToNat, reduceIte, reduceCtorEq, List.length_map, hci, show ¬ (i : Int) < 0 by omega]
      first
        | exact ⟨fun h => ⟨bool_t ⟨hno, h⟩, _, rfl⟩, fun h => ⟨bool_f fun g => h g.2, _, rfl⟩⟩
        | exact ⟨bool_t ⟨hno, by omega⟩, _, rfl⟩
  · simp only [go_sem, C12, Nat.reduceAdd, Nat.reduceSub, Nat.reduceMul, Nat.reduceDiv, Nat.reduceMod, Nat.reduceEqDiff, Nat.reduceLeDiff, Nat.reduceLT, Int.reduceLT, Int.reduceLE, Int.reduceEq, Int.reduceToNat, reduceIte, reduceCtorEq]
    refine LL.st good_E0 (fun i : Nat => l.length - i) (fun i => i ≤ l.length ∧ ∀ c ∈ l.take i, (c.key.length : Int) ≤ 20 ∧ (c.value.length : Int) ≤ 40)
      (fun i => [(.z, .slice k off (l.map Cell.enc).length 5 ex cap), ((.o (.o .z)), .int .i64 i)])
      (fun i => []) ?_ 0 (σ := []) (Wk.mk' rfl (by decide) (by simp only [go_sem, List.length_map, hrho, Nat.reduceAdd, Nat.reduceSub, Nat.reduceMul, Nat.reduceDiv, Nat.reduceMod, Nat.reduceEqDiff, Nat.reduceLeDiff, Nat.reduceLT, Int.reduceLT, Int.reduceLE, Int.reduceEq, Int.reduceToNat, reduceIte, reduceCtorEq]) (by simp only [go_sem, List.length_map, hrho, Nat.reduceAdd, Nat.reduceSub, Nat.reduceMul, Nat.reduceDiv, Nat.reduceMod, Nat.reduceEqDiff, Nat.reduceLeDiff, Nat.reduceLT, Int.reduceLT, Int.reduceLE, Int.reduceEq, Int.reduceToNat, reduceIte, reduceCtorEq])) ⟨by omega, by simp⟩
    rintro i ⟨hi, hno⟩
    by_cases hlt : i < l.length
    · obtain ⟨kk, r, ex', cap', wr, rows, hv, hk, hg, _, hat⟩ := hA.pick (j := i) (by simpa using hlt)
      have hrow := hat i (by simpa using hlt)
      have hgo := Heap.get_ext_old hok hg
      have hw := wrap_succ (n := i) (by omega)
      have hci : (i : Int) < (l.length : Int) := by omega
      have hsi : i + 1 ≤ l.length := by omega
      have hget : l[i]? = some l[i] := List.getElem?_eq_getElem hlt
      cases hv
      have hmem : l[i] ∈ l := List.getElem_mem hlt
      simp only [go_sem, C12L0, Nat.reduceAdd, Nat.reduceSub, Nat.reduceMul, Nat.reduceDiv, Nat.reduceMod, Nat.reduceEqDiff, Nat.reduceLeDiff, Nat.reduceLT, Int.reduceLT, Int.reduceLE, Int.reduceEq, Int.reduceToNat, reduceIte, reduceCtorEq, List.length_map, hw, hgo, hrow, hci, hsi, List.getElem?_eq_getElem hlt, Cell.enc]
      refine ⟨fun he => ⟨bool_f fun h => ?_, _, rfl⟩, fun he => ⟨fun he2 => ⟨bool_f fun h => ?_, _, rfl⟩, fun he2 => ?_⟩⟩
      · have := (h.1 _ hmem).1; omega
      · have := (h.1 _ hmem).2; omega
      · refine ⟨i + 1, by show l.length - (i + 1) < l.length - i; omega, ⟨by omega, ?_⟩, _, [], rfl, Wk.mk' rfl (by decide) (by simp only [go_sem, hrho, List.length_map, Nat.reduceAdd, Nat.reduceSub, Nat.reduceMul, Nat.reduceDiv, Nat.reduceMod, Nat.reduceEqDiff, Nat.reduceLeDiff, Nat.reduceLT, Int.reduceLT, Int.reduceLE, Int.reduceEq, Int.reduceToNat, reduceIte, reduceCtorEq]) (by simp only [go_sem, hrho, List.length_map, Nat.reduceAdd, Nat.reduceSub, Nat.reduceMul, Nat.reduceDiv, Nat.reduceMod, Nat.reduceEqDiff, Nat.reduceLeDiff, Nat.reduceLT, Int.reduceLT, Int.reduceLE, Int.reduceEq, Int.reduceToNat, reduceIte, reduceCtorEq])⟩
        rw [take_next hget]
        intro x hx
        rcases List.mem_append.1 hx with h | h
        · exact hno x h
        · simp only [List.mem_singleton] at h; subst h; omega
    · have hci : ¬ (i : Int) < (l.length : Int) := by omega
      rw [take_all (by omega)] at hno
      simp only [go_sem, C12L0, Nat.reduceAdd, Nat.reduceSub, Nat.reduceMul, Nat.reduceDiv, Nat.reduceMod, Nat.reduceEqDiff, Nat.reduceLeDiff, Nat.reduceLT, Int.reduceLT, Int.reduceLE, Int.reduceEq, Int.reduceToNat, reduceIte, reduceCtorEq, List.length_map, hci]
      first
        | exact ⟨fun h => ⟨bool_t ⟨hno, h⟩, _, rfl⟩, fun h => ⟨bool_f fun g => h g.2, _, rfl⟩⟩
        | exact ⟨bool_t ⟨hno, by omega⟩, _, rfl⟩

end Go.Proofs
/- index: the order of cells, walked. -/

set_option linter.all false
set_option maxRecDepth 100000
namespace Go.Proofs
open Go Go.Ev
variable {H : Heap}

def okAt (l : List Cell) (j : Nat) : Prop := ∃ c, l[j]? = some c ∧ cellIs c ∧ (0 < j → ∃ d, l[j - 1]? = some d ∧ ltS d.key c.key)
def isIdx (l : List Cell) : Prop := ∀ j, j < l.length → okAt l j
noncomputable instance (l : List Cell) : Decidable (isIdx l) := Classical.propDecidable _

theorem f17_ok {v : AV} {l : List Cell} (hA : Arr H 5 v (l.map Cell.enc)) (hl : l.length < 4294967296) :
    FnOk Try.prog 17 [v] H fun r G => r = .bool (decide (isIdx l)) ∧ G = H := by
  refine FnOk.assume fun hok => ?_
  refine FnOk.drop (R := fun r => r = .bool (decide (isIdx l))) ?_ (by rintro v rfl ρ; rw [AV.ren])
  refine FnOk.of_WW Try.func17 rfl C17ok R17ok E0 good_E0 ?_
  rcases hA.forms with ⟨rfl, hnil⟩ | ⟨k, off, ex, cap, rfl, hrho⟩
  · have hn0 : l.length = 0 := by simpa using hnil
    simp only [go_sem, C17, Nat.reduceAdd, Nat.reduceSub, Nat.reduceMul, Nat.reduceDiv, Nat.reduceMod, Nat.reduceEqDiff, Nat.reduceLeDiff, Nat.reduceLT, Int.reduceLT, Int.reduceLE, Int.reduceEq, Int.reduceToNat, reduceIte, reduceCtorEq]
    refine LL.st good_E0 (fun i : Nat => l.length - i) (fun i => i ≤ l.length ∧ ∀ j, j < i → okAt l j)
      (fun i => [(.z, .nils), ((.o (.i .z)), .nils), ((.i (.i .z)), .int .i64 l.length), ((.o (.o (.o .z))), .int .i64 i)])
      (fun i => []) ?_ 0 (σ := []) (Wk.mk' rfl (by decide) (by simp only [go_sem, List.length_map, hn0, Nat.reduceAdd, Nat.reduceSub, Nat.reduceMul, Nat.reduceDiv, Nat.reduceMod, Nat.reduceEqDiff, Nat.reduceLeDiff, Nat.reduceLT, Int.reduceLT, Int.reduceLE, Int.reduceEq, Int.reduceToNat, reduceIte, reduceCtorEq]) (by simp only [go_sem, List.length_map, hn0, Nat.reduceAdd, Nat.reduceSub, Nat.reduceMul, Nat.reduceDiv, Nat.reduceMod, Nat.reduceEqDiff, Nat.reduceLeDiff, Nat.reduceLT, Int.reduceLT, Int.reduceLE, Int.reduceEq, Int.reduceToNat, reduceIte, reduceCtorEq])) ⟨by omega, by simp⟩
    rintro i ⟨hi, hno⟩
    by_cases hlt : i < l.length
    · exact absurd hlt (by omega)
    · have hci : ¬ (i : Int) < (l.length : Int) := by omega
      simp only [go_sem, C17L0, Nat.reduceAdd, Nat.reduceSub, Nat.reduceMul, Nat.reduceDiv, Nat.reduceMod, Nat.reduceEqDiff, Nat.reduceLeDiff, Nat.reduceLT, Int.reduceLT, Int.reduceLE, Int.reduceEq, Int.reduceToNat, reduceIte, reduceCtorEq, List.length_map, hci, show ¬ (i : Int) < 0 by omega]
      exact ⟨bool_t fun j hj => hno j (by omega), _, rfl⟩
  · simp only [go_sem, C17, Nat.reduceAdd, Nat.reduceSub, Nat.reduceMul, Nat.reduceDiv, Nat.reduceMod, Nat.reduceEqDiff, Nat.reduceLeDiff, Nat.reduceLT, Int.reduceLT, Int.reduceLE, Int.reduceEq, Int.reduceToNat, reduceIte, reduceCtorEq]
    refine LL.st good_E0 (fun i : Nat => l.length - i) (fun i => i ≤ l.length ∧ ∀ j, j < i → okAt l j)
      (fun i => [(.z, .slice k off (l.map Cell.enc).length 5 ex cap), ((.o (.i .z)), .slice k off (l.map Cell.enc).length 5 ex cap), ((.i (.i .z)), .int .i64 l.length), ((.o (.o (.o .z))), .int .i64 i)])
      (fun i => []) ?_ 0 (σ := []) (Wk.mk' rfl (by decide) (by simp only [go_sem, List.length_map, hrho, Nat.reduceAdd, Nat.reduceSub, Nat.reduceMul, Nat.reduceDiv, Nat.reduceMod, Nat.reduceEqDiff, Nat.reduceLeDiff, Nat.reduceLT, Int.reduceLT, Int.reduceLE, Int.reduceEq, Int.reduceToNat, reduceIte, reduceCtorEq]) (by simp only [go_sem, List.length_map, hrho, Nat.reduceAdd, Nat.reduceSub, Nat.reduceMul, Nat.reduceDiv, Nat.reduceMod, Nat.reduceEqDiff, Nat.reduceLeDiff, Nat.reduceLT, Int.reduceLT, Int.reduceLE, Int.reduceEq, Int.reduceToNat, reduceIte, reduceCtorEq])) ⟨by omega, by simp⟩
    rintro i ⟨hi, hno⟩
    by_cases hlt : i < l.length
    · obtain ⟨kk, r, ex', cap', wr, rows, hv, hk, hg, _, hat⟩ := hA.pick (j := i) (by simpa using hlt)
      have hrow := hat i (by simpa using hlt)
      have hgo := Heap.get_ext_old hok hg
      have hw := wrap_succ (n := i) (by omega)
      have hci : (i : Int) < (l.length : Int) := by omega
      have hsi : i + 1 ≤ l.length := by omega
      have hget : l[i]? = some l[i] := List.getElem?_eq_getElem hlt
      cases hv
      have hbad : ¬ okAt l i → ¬ isIdx l := fun h g => h (g i hlt)
      simp only [go_sem, C17L0, Nat.reduceAdd, Nat.reduceSub, Nat.reduceMul, Nat.reduceDiv, Nat.reduceMod, Nat.reduceEqDiff, Nat.reduceLeDiff, Nat.reduceLT, Int.reduceLT, Int.reduceLE, Int.reduceEq, Int.reduceToNat, reduceIte, reduceCtorEq, List.length_map, hw, hgo, hrow, hci, hsi, List.getElem?_eq_getElem hlt, Cell.enc]
      refine CL.bool (f48_ok l[i]) (fun h1 => ?_) (fun h1 => ?_)
      · rcases Nat.eq_zero_or_pos i with h0 | h0
        · subst h0
          have hw0 : IntKind.i64.wrap (0 + 1) = ((0 + 1 : Nat) : Int) := rfl
          simp only [go_sem, Nat.reduceAdd, Nat.reduceSub, Nat.reduceMul, Nat.reduceDiv, Nat.reduceMod, Nat.reduceEqDiff, Nat.reduceLeDiff, Nat.reduceLT, Int.reduceLT, Int.reduceLE, Int.reduceEq, Int.reduceToNat, reduceIte, reduceCtorEq, List.length_map, hw, hgo, hrow, hci, hsi, List.getElem?_eq_getElem hlt, Cell.enc, Int.lt_irrefl, Int.ofNat_zero, hw0]
          refine ⟨0 + 1, by show l.length - (0 + 1) < l.length - 0; omega, ?_, _, [], rfl, Wk.mk' rfl (by decide) (by simp only [go_sem, hrho, List.length_map, Nat.reduceAdd, Nat.reduceSub, Nat.reduceMul, Nat.reduceDiv, Nat.reduceMod, Nat.reduceEqDiff, Nat.reduceLeDiff, Nat.reduceLT, Int.reduceLT, Int.reduceLE, Int.reduceEq, Int.reduceToNat, reduceIte, reduceCtorEq]) (by simp only [go_sem, hrho, List.length_map, Nat.reduceAdd, Nat.reduceSub, Nat.reduceMul, Nat.reduceDiv, Nat.reduceMod, Nat.reduceEqDiff, Nat.reduceLeDiff, Nat.reduceLT, Int.reduceLT, Int.reduceLE, Int.reduceEq, Int.reduceToNat, reduceIte, reduceCtorEq])⟩
          refine ⟨by omega, fun j hj => ?_⟩
          obtain rfl : j = 0 := by omega
          exact ⟨_, hget, h1, fun h => absurd h (by omega)⟩
        · obtain ⟨j, rfl⟩ : ∃ j, i = j + 1 := ⟨i - 1, by omega⟩
          have hrow' := hat j (by simp only [List.length_map]; omega)
          have hp : IntKind.i64.wrap (((j + 1 : Nat) : Int) - 1) = (j : Int) := by rw [wrap_i64 (by omega) (by omega)]; omega
          have hpos : (0 : Int) < ((j + 1 : Nat) : Int) := by omega
          have hltj : (j : Int) < (l.length : Int) := by omega
          have hsj : j + 1 ≤ l.length := by omega
          have hgetj : l[j]? = some l[j] := List.getElem?_eq_getElem (by omega)
          simp only [go_sem, Nat.reduceAdd, Nat.reduceSub, Nat.reduceMul, Nat.reduceDiv, Nat.reduceMod, Nat.reduceEqDiff, Nat.reduceLeDiff, Nat.reduceLT, Int.reduceLT, Int.reduceLE, Int.reduceEq, Int.reduceToNat, reduceIte, reduceCtorEq, List.length_map, hw, hgo, hrow, hci, hsi, List.getElem?_eq_getElem hlt, Cell.enc, hrow', hp, hpos, hltj, hsj, hgetj]
          refine ⟨fun h2 => ⟨bool_f (hbad ?_), _, rfl⟩, fun h2 => ?_⟩
          · rintro ⟨c, hc, _, hlt'⟩
            obtain ⟨d, hd, hlt'⟩ := hlt' (by omega)
            rw [hget] at hc
            rw [Nat.add_sub_cancel, hgetj] at hd
            cases hc; cases hd
            exact h2 hlt'
          · refine ⟨(j + 1) + 1, by show l.length - ((j + 1) + 1) < l.length - (j + 1); omega, ?_, _, [], rfl, Wk.mk' rfl (by decide) (by simp only [go_sem, hrho, List.length_map, Nat.reduceAdd, Nat.reduceSub, Nat.reduceMul, Nat.reduceDiv, Nat.reduceMod, Nat.reduceEqDiff, Nat.reduceLeDiff, Nat.reduceLT, Int.reduceLT, Int.reduceLE, Int.reduceEq, Int.reduceToNat, reduceIte, reduceCtorEq]) (by simp only [go_sem, hrho, List.length_map, Nat.reduceAdd, Nat.reduceSub, Nat.reduceMul, Nat.reduceDiv, Nat.reduceMod, Nat.reduceEqDiff, Nat.reduceLeDiff, Nat.reduceLT, Int.reduceLT, Int.reduceLE, Int.reduceEq, Int.reduceToNat, reduceIte, reduceCtorEq])⟩
            refine ⟨by omega, fun x hx => ?_⟩
            rcases Nat.lt_or_ge x (j + 1) with g | g
            · exact hno x g
            · obtain rfl : x = j + 1 := by omega
              exact ⟨_, hget, h1, fun _ => ⟨_, hgetj, Classical.not_not.1 h2⟩⟩
      · simp only [go_sem, Nat.reduceAdd, Nat.reduceSub, Nat.reduceMul, Nat.reduceDiv, Nat.reduceMod, Nat.reduceEqDiff, Nat.reduceLeDiff, Nat.reduceLT, Int.reduceLT, Int.reduceLE, Int.reduceEq, Int.reduceToNat, reduceIte, reduceCtorEq, List.length_map, hw, hgo, hrow, hci, hsi, List.getElem?_eq_getElem hlt, Cell.enc]
        exact ⟨bool_f (hbad (by rintro ⟨c, hc, h, _⟩; rw [hget] at hc; cases hc; exact h1 h)), _, rfl⟩
    · have hci : ¬ (i : Int) < (l.length : Int) := by omega
      simp only [go_sem, C17L0, Nat.reduceAdd, Nat.reduceSub, Nat.reduceMul, Nat.reduceDiv, Nat.reduceMod, Nat.reduceEqDiff, Nat.reduceLeDiff, Nat.reduceLT, Int.reduceLT, Int.reduceLE, Int.reduceEq, Int.reduceToNat, reduceIte, reduceCtorEq, List.length_map, hci]
      exact ⟨bool_t fun j hj => hno j (by omega), _, rfl⟩

end Go.Proofs
/- index: the reference order of cells and sameness, walked. -/

set_option linter.all false
set_option maxRecDepth 100000
namespace Go.Proofs
open Go Go.Ev
variable {H : Heap}

noncomputable def F24 : FuncId → List AV → Option AV
  | 24, [.agg [.str k, .str v, .int .i64 n, .bool d, .int .i64 f]] => some (.bool (decide (cellIs ⟨k, v, n, d, f⟩)))
  | _, _ => none
theorem good_F24 : Good Try.prog (pureE F24) := by
  refine good_pureE fun f args v h H => ?_
  unfold F24 at h
  split at h
  · cases h; exact f24_ok ⟨_, _, _, _, _⟩
  · cases h
theorem e24 (k v : List Nat) (n : Int) (d : Bool) (f : Int) (H : Heap) : pureE F24 24 [.agg [.str k, .str v, .int .i64 n, .bool d, .int .i64 f]] H = .ok (.bool (decide (cellIs ⟨k, v, n, d, f⟩))) H := rfl
noncomputable def F46 : FuncId → List AV → Option AV
  | 46, [.agg [.str f, .str t], .str k] => some (.bool (decide (has f t k)))
  | _, _ => none
theorem good_F46 : Good Try.prog (pureE F46) := by
  refine good_pureE fun f args v h H => ?_
  unfold F46 at h
  split at h
  · cases h; exact f46_ok _ _ _
  · cases h
theorem e46 (f t k : List Nat) (H : Heap) : pureE F46 46 [.agg [.str f, .str t], .str k] H = .ok (.bool (decide (has f t k))) H := rfl

theorem f18_ok {v : AV} {l : List Cell} (hA : Arr H 5 v (l.map Cell.enc)) (hl : l.length < 4294967296) :
    FnOk Try.prog 18 [v] H fun r G => r = .bool (decide (isIdx l)) ∧ G = H := by
  refine FnOk.assume fun hok => ?_
  refine FnOk.drop (R := fun r => r = .bool (decide (isIdx l))) ?_ (by rintro v rfl ρ; rw [AV.ren])
  refine FnOk.of_WW Try.func18 rfl C18ok R18ok (pureE F24) good_F24 ?_
  rcases hA.forms with ⟨rfl, hnil⟩ | ⟨k, off, ex, cap, rfl, hrho⟩
  · have hn0 : l.length = 0 := by simpa using hnil
    simp only [go_sem, C18, Nat.reduceAdd, Nat.reduceSub, Nat.reduceMul, Nat.reduceDiv, Nat.reduceMod, Nat.reduceEqDiff, Nat.reduceLeDiff, Nat.reduceLT, Int.reduceLT, Int.reduceLE, Int.reduceEq, Int.reduceToNat, reduceIte, reduceCtorEq]
    refine LL.st good_F24 (fun i : Nat => l.length - i) (fun i => i ≤ l.length ∧ ∀ j, j < i → okAt l j)
      (fun i => [(.z, .nils), ((.o (.o .z)), .int .i64 i)])
      (fun i => []) ?_ 0 (σ := []) (Wk.mk' rfl (by decide) (by simp only [go_sem, List.length_map, hn0, Nat.reduceAdd, Nat.reduceSub, Nat.reduceMul, Nat.reduceDiv, Nat.reduceMod, Nat.reduceEqDiff, Nat.reduceLeDiff, Nat.reduceLT, Int.reduceLT, Int.reduceLE, Int.reduceEq, Int.reduceToNat, reduceIte, reduceCtorEq]) (by simp only [go_sem, List.length_map, hn0, Nat.reduceAdd, Nat.reduceSub, Nat.reduceMul, Nat.reduceDiv, Nat.reduceMod, Nat.reduceEqDiff, Nat.reduceLeDiff, Nat.reduceLT, Int.reduceLT, Int.reduceLE, Int.reduceEq, Int.reduceToNat, reduceIte, reduceCtorEq])) ⟨by omega, by simp⟩
    rintro i ⟨hi, hno⟩
    by_cases hlt : i < l.length
    · exact absurd hlt (by omega)
    · have hci : ¬ (i : Int) < (l.length : Int) := by omega
      simp only [go_sem, C18L0, Nat.reduceAdd, Nat.reduceSub, Nat.reduceMul, Nat.reduceDiv, Nat.reduceMod, Nat.reduceEqDiff, Nat.reduceLeDiff, Nat.reduceLT, Int.reduceLT, Int.reduceLE, Int.reduceEq, Int.reduceToNat, reduceIte, reduceCtorEq, List.length_map, hci, show ¬ (i : Int) < 0 by omega]
      exact ⟨bool_t fun j hj => hno j (by omega), _, rfl⟩
  · simp only [go_sem, C18, Nat.reduceAdd, Nat.reduceSub, Nat.reduceMul, Nat.reduceDiv, Nat.reduceMod, Nat.reduceEqDiff, Nat.reduceLeDiff, Nat.reduceLT, Int.reduceLT, Int.reduceLE, Int.reduceEq, Int.reduceToNat, reduceIte, reduceCtorEq]
    refine LL.st good_F24 (fun i : Nat => l.length - i) (fun i => i ≤ l.length ∧ ∀ j, j < i → okAt l j)
      (fun i => [(.z, .slice k off (l.map Cell.enc).length 5 ex cap), ((.o (.o .z)), .int .i64 i)])
      (fun i => []) ?_ 0 (σ := []) (Wk.mk' rfl (by decide) (by simp only [go_sem, List.length_map, hrho, Nat.reduceAdd, Nat.reduceSub, Nat.reduceMul, Nat.reduceDiv, Nat.reduceMod, Nat.reduceEqDiff, Nat.reduceLeDiff, Nat.reduceLT, Int.reduceLT, Int.reduceLE, Int.reduceEq, Int.reduceToNat, reduceIte, reduceCtorEq]) (by simp only [go_sem, List.length_map, hrho, Nat.reduceAdd, Nat.reduceSub, Nat.reduceMul, Nat.reduceDiv, Nat.reduceMod, Nat.reduceEqDiff, Nat.reduceLeDiff, Nat.reduceLT, Int.reduceLT, Int.reduceLE, Int.reduceEq, Int.reduceToNat, reduceIte, reduceCtorEq])) ⟨by omega, by simp⟩
    rintro i ⟨hi, hno⟩
    by_cases hlt : i < l.length
    · obtain ⟨kk, r, ex', cap', wr, rows, hv, hk, hg, _, hat⟩ := hA.pick (j := i) (by simpa using hlt)
      have hrow := hat i (by simpa using hlt)
      have hgo := Heap.get_ext_old hok hg
      have hw := wrap_succ (n := i) (by omega)
      have hci : (i : Int) < (l.length : Int) := by omega
      have hsi : i + 1 ≤ l.length := by omega
      have hget : l[i]? = some l[i] := List.getElem?_eq_getElem hlt
      cases hv
      have hbad : ¬ okAt l i → ¬ isIdx l := fun h g => h (g i hlt)
      have hbad1 : ¬ cellIs ⟨l[i].key, l[i].value, l[i].ver, l[i].del, l[i].floor⟩ → ¬ isIdx l := fun h => hbad (by rintro ⟨c, hc, g, _⟩; rw [hget] at hc; cases hc; exact h g)
      rcases Nat.eq_zero_or_pos i with h0 | h0
      · subst h0
        have hw0 : IntKind.i64.wrap (0 + 1) = ((0 + 1 : Nat) : Int) := rfl
        have hci0 : (0 : Int) < (l.length : Int) := hci
        have hrow0 : rows[r]? = (l.map Cell.enc)[0]? := hrow
        simp only [go_sem, C18L0, e24, Nat.reduceAdd, Nat.reduceSub, Nat.reduceMul, Nat.reduceDiv, Nat.reduceMod, Nat.reduceEqDiff, Nat.reduceLeDiff, Nat.reduceLT, Int.reduceLT, Int.reduceLE, Int.reduceEq, Int.reduceToNat, reduceIte, reduceCtorEq, List.length_map, hw, hgo, hrow, hci, hsi, List.getElem?_eq_getElem hlt, Cell.enc, hw0, hci0, hrow0, Int.lt_irrefl, Int.ofNat_zero]
        refine ⟨fun h1 => ?_, fun h1 => ⟨bool_f (hbad1 h1), _, rfl⟩⟩
        refine ⟨0 + 1, by show l.length - (0 + 1) < l.length - 0; omega, ?_, _, [], rfl, Wk.mk' rfl (by decide) (by simp only [go_sem, hrho, List.length_map, Nat.reduceAdd, Nat.reduceSub, Nat.reduceMul, Nat.reduceDiv, Nat.reduceMod, Nat.reduceEqDiff, Nat.reduceLeDiff, Nat.reduceLT, Int.reduceLT, Int.reduceLE, Int.reduceEq, Int.reduceToNat, reduceIte, reduceCtorEq]) (by simp only [go_sem, hrho, List.length_map, Nat.reduceAdd, Nat.reduceSub, Nat.reduceMul, Nat.reduceDiv, Nat.reduceMod, Nat.reduceEqDiff, Nat.reduceLeDiff, Nat.reduceLT, Int.reduceLT, Int.reduceLE, Int.reduceEq, Int.reduceToNat, reduceIte, reduceCtorEq])⟩
        refine ⟨by omega, fun j hj => ?_⟩
        obtain rfl : j = 0 := by omega
        exact ⟨_, hget, h1, fun h => absurd h (by omega)⟩
      · obtain ⟨j, rfl⟩ : ∃ j, i = j + 1 := ⟨i - 1, by omega⟩
        have hrow' := hat j (by simp only [List.length_map]; omega)
        have hp : IntKind.i64.wrap (((j + 1 : Nat) : Int) - 1) = (j : Int) := by rw [wrap_i64 (by omega) (by omega)]; omega
        have hpos : (0 : Int) < ((j + 1 : Nat) : Int) := by omega
        have hltj : (j : Int) < (l.length : Int) := by omega
        have hsj : j + 1 ≤ l.length := by omega
        have hgetj : l[j]? = some l[j] := List.getElem?_eq_getElem (by omega)
        simp only [go_sem, C18L0, e24, Nat.reduceAdd, Nat.reduceSub, Nat.reduceMul, Nat.reduceDiv, Nat.reduceMod, Nat.reduceEqDiff, Nat.reduceLeDiff, Nat.reduceLT, Int.reduceLT, Int.reduceLE, Int.reduceEq, Int.reduceToNat, reduceIte, reduceCtorEq, List.length_map, hw, hgo, hrow, hci, hsi, List.getElem?_eq_getElem hlt, Cell.enc, hrow', hp, hpos, hltj, hsj, hgetj]
        refine ⟨fun h1 => ⟨fun h2 => ⟨bool_f (hbad ?_), _, rfl⟩, fun h2 => ?_⟩, fun h1 => ⟨bool_f (hbad1 h1), _, rfl⟩⟩
        · rintro ⟨c, hc, _, hlt'⟩
          obtain ⟨d, hd, hlt'⟩ := hlt' (by omega)
          rw [hget] at hc
          rw [Nat.add_sub_cancel, hgetj] at hd
          cases hc; cases hd
          exact h2 hlt'
        · refine ⟨(j + 1) + 1, by show l.length - ((j + 1) + 1) < l.length - (j + 1); omega, ?_, _, [], rfl, Wk.mk' rfl (by decide) (by simp only [go_sem, hrho, List.length_map, Nat.reduceAdd, Nat.reduceSub, Nat.reduceMul, Nat.reduceDiv, Nat.reduceMod, Nat.reduceEqDiff, Nat.reduceLeDiff, Nat.reduceLT, Int.reduceLT, Int.reduceLE, Int.reduceEq, Int.reduceToNat, reduceIte, reduceCtorEq]) (by simp only [go_sem, hrho, List.length_map, Nat.reduceAdd, Nat.reduceSub, Nat.reduceMul, Nat.reduceDiv, Nat.reduceMod, Nat.reduceEqDiff, Nat.reduceLeDiff, Nat.reduceLT, Int.reduceLT, Int.reduceLE, Int.reduceEq, Int.reduceToNat, reduceIte, reduceCtorEq])⟩
          refine ⟨by omega, fun x hx => ?_⟩
          rcases Nat.lt_or_ge x (j + 1) with g | g
          · exact hno x g
          · obtain rfl : x = j + 1 := by omega
            exact ⟨_, hget, h1, fun _ => ⟨_, hgetj, Classical.not_not.1 h2⟩⟩
    · have hci : ¬ (i : Int) < (l.length : Int) := by omega
      simp only [go_sem, C18L0, Nat.reduceAdd, Nat.reduceSub, Nat.reduceMul, Nat.reduceDiv, Nat.reduceMod, Nat.reduceEqDiff, Nat.reduceLeDiff, Nat.reduceLT, Int.reduceLT, Int.reduceLE, Int.reduceEq, Int.reduceToNat, reduceIte, reduceCtorEq, List.length_map, hci]
      exact ⟨bool_t fun j hj => hno j (by omega), _, rfl⟩

end Go.Proofs
/- index: sameness of cells, walked. -/

set_option linter.all false
set_option maxRecDepth 100000
namespace Go.Proofs
open Go Go.Ev
variable {H : Heap}

theorem f19_ok {v w : AV} {l m : List Cell} (hA : Arr H 5 v (l.map Cell.enc)) (hB : Arr H 5 w (m.map Cell.enc)) (hl : l.length < 4294967296) (hm : m.length < 4294967296) :
    FnOk Try.prog 19 [v, w] H fun r G => r = .bool (decide (l = m)) ∧ G = H := by
  refine FnOk.assume fun hok => ?_
  refine FnOk.drop (R := fun r => r = .bool (decide (l = m))) ?_ (by rintro v rfl ρ; rw [AV.ren])
  refine FnOk.of_WW Try.func19 rfl C19ok R19ok E0 good_E0 ?_
  rcases hA.forms with ⟨rfl, hnil⟩ | ⟨k, off, ex, cap, rfl, hrho⟩ <;> rcases hB.forms with ⟨rfl, hnil2⟩ | ⟨k2, off2, ex2, cap2, rfl, hrho2⟩
  · have hn0 : l.length = 0 := by simpa using hnil
    have hm0 : m.length = 0 := by simpa using hnil2
    by_cases hlen : l.length = m.length
    · have hle : (l.length : Int) = (m.length : Int) := by omega
      have h0 : (0 : Int) = (m.length : Int) := by omega
      have h0 : (l.length : Int) = 0 := by omega
      simp only [go_sem, C19, Nat.reduceAdd, Nat.reduceSub, Nat.reduceMul, Nat.reduceDiv, Nat.reduceMod, Nat.reduceEqDiff, Nat.reduceLeDiff, Nat.reduceLT, Int.reduceLT, Int.reduceLE, Int.reduceEq, Int.reduceToNat, reduceIte, reduceCtorEq, List.length_map, hle, h0.symm]
      refine LL.st good_E0 (fun i : Nat => l.length - i) (fun i => i ≤ l.length ∧ ∀ j, j < i → l[j]? = m[j]?)
        (fun i => [(.z, .nils), ((.o .z), .nils), ((.o (.i .z)), .int .i64 i)])
        (fun i => []) ?_ 0 (σ := []) (Wk.mk' rfl (by decide) (by simp only [go_sem, List.length_map, hn0, hm0, Nat.reduceAdd, Nat.reduceSub, Nat.reduceMul, Nat.reduceDiv, Nat.reduceMod, Nat.reduceEqDiff, Nat.reduceLeDiff, Nat.reduceLT, Int.reduceLT, Int.reduceLE, Int.reduceEq, Int.reduceToNat, reduceIte, reduceCtorEq]) (by simp only [go_sem, List.length_map, hn0, hm0, Nat.reduceAdd, Nat.reduceSub, Nat.reduceMul, Nat.reduceDiv, Nat.reduceMod, Nat.reduceEqDiff, Nat.reduceLeDiff, Nat.reduceLT, Int.reduceLT, Int.reduceLE, Int.reduceEq, Int.reduceToNat, reduceIte, reduceCtorEq])) ⟨by omega, by simp⟩
      rintro i ⟨hi, hno⟩
      by_cases hlt : i < l.length
      · exact absurd hlt (by omega)
      · have hci : ¬ (i : Int) < (l.length : Int) := by omega
        simp only [go_sem, C19L0, Nat.reduceAdd, Nat.reduceSub, Nat.reduceMul, Nat.reduceDiv, Nat.reduceMod, Nat.reduceEqDiff, Nat.reduceLeDiff, Nat.reduceLT, Int.reduceLT, Int.reduceLE, Int.reduceEq, Int.reduceToNat, reduceIte, reduceCtorEq, List.length_map, hci, show ¬ (i : Int) < 0 by omega]
        refine ⟨bool_t (List.ext_getElem? fun j => ?_), _, rfl⟩
        rcases Nat.lt_or_ge j l.length with g | g
        · exact hno j (by omega)
        · rw [List.getElem?_eq_none g, List.getElem?_eq_none (by omega)]
    · have hne : ¬ (l.length : Int) = (m.length : Int) := by omega
      have h0 : ¬ (0 : Int) = (m.length : Int) := by omega
      have h0 : ¬ (l.length : Int) = 0 := by omega
      exact absurd (hn0.trans hm0.symm) hlen
  · have hn0 : l.length = 0 := by simpa using hnil
    skip
    by_cases hlen : l.length = m.length
    · have hle : (l.length : Int) = (m.length : Int) := by omega
      have h0 : (0 : Int) = (m.length : Int) := by omega
      skip
      simp only [go_sem, C19, Nat.reduceAdd, Nat.reduceSub, Nat.reduceMul, Nat.reduceDiv, Nat.reduceMod, Nat.reduceEqDiff, Nat.reduceLeDiff, Nat.reduceLT, Int.reduceLT, Int.reduceLE, Int.reduceEq, Int.reduceToNat, reduceIte, reduceCtorEq, List.length_map, hle, h0.symm]
      refine LL.st good_E0 (fun i : Nat => l.length - i) (fun i => i ≤ l.length ∧ ∀ j, j < i → l[j]? = m[j]?)
        (fun i => [(.z, .nils), ((.o .z), .slice k2 off2 (m.map Cell.enc).length 5 ex2 cap2), ((.o (.i .z)), .int .i64 i)])
        (fun i => []) ?_ 0 (σ := []) (Wk.mk' rfl (by decide) (by simp only [go_sem, List.length_map, hn0, hrho2, Nat.reduceAdd, Nat.reduceSub, Nat.reduceMul, Nat.reduceDiv, Nat.reduceMod, Nat.reduceEqDiff, Nat.reduceLeDiff, Nat.reduceLT, Int.reduceLT, Int.reduceLE, Int.reduceEq, Int.reduceToNat, reduceIte, reduceCtorEq]) (by simp only [go_sem, List.length_map, hn0, hrho2, Nat.reduceAdd, Nat.reduceSub, Nat.reduceMul, Nat.reduceDiv, Nat.reduceMod, Nat.reduceEqDiff, Nat.reduceLeDiff, Nat.reduceLT, Int.reduceLT, Int.reduceLE, Int.reduceEq, Int.reduceToNat, reduceIte, reduceCtorEq])) ⟨by omega, by simp⟩
      rintro i ⟨hi, hno⟩
      by_cases hlt : i < l.length
      · exact absurd hlt (by omega)
      · have hci : ¬ (i : Int) < (l.length : Int) := by omega
        simp only [go_sem, C19L0, Nat.reduceAdd, Nat.reduceSub, Nat.reduceMul, Nat.reduceDiv, Nat.reduceMod, Nat.reduceEqDiff, Nat.reduceLeDiff, Nat.reduceLT, Int.reduceLT, Int.reduceLE, Int.reduceEq, Int.reduceToNat, reduceIte, reduceCtorEq, List.length_map, hci, show ¬ (i : Int) < 0 by omega]
        refine ⟨bool_t (List.ext_getElem? fun j => ?_), _, rfl⟩
        rcases Nat.lt_or_ge j l.length with g | g
        · exact hno j (by omega)
        · rw [List.getElem?_eq_none g, List.getElem?_eq_none (by omega)]
    · have hne : ¬ (l.length : Int) = (m.length : Int) := by omega
      have h0 : ¬ (0 : Int) = (m.length : Int) := by omega
      skip
      simp only [go_sem, C19, Nat.reduceAdd, Nat.reduceSub, Nat.reduceMul, Nat.reduceDiv, Nat.reduceMod, Nat.reduceEqDiff, Nat.reduceLeDiff, Nat.reduceLT, Int.reduceLT, Int.reduceLE, Int.reduceEq, Int.reduceToNat, reduceIte, reduceCtorEq, List.length_map, hne, h0]
      exact ⟨bool_f fun h => hlen (by rw [h]), _, rfl⟩
  · skip
    have hm0 : m.length = 0 := by simpa using hnil2
    by_cases hlen : l.length = m.length
    · have hle : (l.length : Int) = (m.length : Int) := by omega
      skip
      have h0 : (l.length : Int) = 0 := by omega
      simp only [go_sem, C19, Nat.reduceAdd, Nat.reduceSub, Nat.reduceMul, Nat.reduceDiv, Nat.reduceMod, Nat.reduceEqDiff, Nat.reduceLeDiff, Nat.reduceLT, Int.reduceLT, Int.reduceLE, Int.reduceEq, Int.reduceToNat, reduceIte, reduceCtorEq, List.length_map, h0]
      refine LL.st good_E0 (fun i : Nat => l.length - i) (fun i => i ≤ l.length ∧ ∀ j, j < i → l[j]? = m[j]?)
        (fun i => [(.z, .slice k off (l.map Cell.enc).length 5 ex cap), ((.o .z), .nils), ((.o (.i .z)), .int .i64 i)])
        (fun i => []) ?_ 0 (σ := []) (Wk.mk' rfl (by decide) (by simp only [go_sem, List.length_map, hrho, hm0, Nat.reduceAdd, Nat.reduceSub, Nat.reduceMul, Nat.reduceDiv, Nat.reduceMod, Nat.reduceEqDiff, Nat.reduceLeDiff, Nat.reduceLT, Int.reduceLT, Int.reduceLE, Int.reduceEq, Int.reduceToNat, reduceIte, reduceCtorEq]) (by simp only [go_sem, List.length_map, hrho, hm0, Nat.reduceAdd, Nat.reduceSub, Nat.reduceMul, Nat.reduceDiv, Nat.reduceMod, Nat.reduceEqDiff, Nat.reduceLeDiff, Nat.reduceLT, Int.reduceLT, Int.reduceLE, Int.reduceEq, Int.reduceToNat, reduceIte, reduceCtorEq])) ⟨by omega, by simp⟩
      rintro i ⟨hi, hno⟩
      by_cases hlt : i < l.length
      · exact absurd hlt (by omega)
      · have hci : ¬ (i : Int) < (l.length : Int) := by omega
        simp only [go_sem, C19L0, Nat.reduceAdd, Nat.reduceSub, Nat.reduceMul, Nat.reduceDiv, Nat.reduceMod, Nat.reduceEqDiff, Nat.reduceLeDiff, Nat.reduceLT, Int.reduceLT, Int.reduceLE, Int.reduceEq, Int.reduceToNat, reduceIte, reduceCtorEq, List.length_map, hci]
        refine ⟨bool_t (List.ext_getElem? fun j => ?_), _, rfl⟩
        rcases Nat.lt_or_ge j l.length with g | g
        · exact hno j (by omega)
        · rw [List.getElem?_eq_none g, List.getElem?_eq_none (by omega)]
    · have hne : ¬ (l.length : Int) = (m.length : Int) := by omega
      skip
      have h0 : ¬ (l.length : Int) = 0 := by omega
      simp only [go_sem, C19, Nat.reduceAdd, Nat.reduceSub, Nat.reduceMul, Nat.reduceDiv, Nat.reduceMod, Nat.reduceEqDiff, Nat.reduceLeDiff, Nat.reduceLT, Int.reduceLT, Int.reduceLE, Int.reduceEq, Int.reduceToNat, reduceIte, reduceCtorEq, List.length_map, hne, h0]
      exact ⟨bool_f fun h => hlen (by rw [h]), _, rfl⟩
  · skip
    skip
    by_cases hlen : l.length = m.length
    · have hle : (l.length : Int) = (m.length : Int) := by omega
      skip
      skip
      simp only [go_sem, C19, Nat.reduceAdd, Nat.reduceSub, Nat.reduceMul, Nat.reduceDiv, Nat.reduceMod, Nat.reduceEqDiff, Nat.reduceLeDiff, Nat.reduceLT, Int.reduceLT, Int.reduceLE, Int.reduceEq, Int.reduceToNat, reduceIte, reduceCtorEq, List.length_map, hle]
      refine LL.st good_E0 (fun i : Nat => l.length - i) (fun i => i ≤ l.length ∧ ∀ j, j < i → l[j]? = m[j]?)
        (fun i => [(.z, .slice k off (l.map Cell.enc).length 5 ex cap), ((.o .z), .slice k2 off2 (m.map Cell.enc).length 5 ex2 cap2), ((.o (.i .z)), .int .i64 i)])
        (fun i => []) ?_ 0 (σ := []) (Wk.mk' rfl (by decide) (by simp only [go_sem, List.length_map, hrho, hrho2, Nat.reduceAdd, Nat.reduceSub, Nat.reduceMul, Nat.reduceDiv, Nat.reduceMod, Nat.reduceEqDiff, Nat.reduceLeDiff, Nat.reduceLT, Int.reduceLT, Int.reduceLE, Int.reduceEq, Int.reduceToNat, reduceIte, reduceCtorEq]) (by simp only [go_sem, List.length_map, hrho, hrho2, Nat.reduceAdd, Nat.reduceSub, Nat.reduceMul, Nat.reduceDiv, Nat.reduceMod, Nat.reduceEqDiff, Nat.reduceLeDiff, Nat.reduceLT, Int.reduceLT, Int.reduceLE, Int.reduceEq, Int.reduceToNat, reduceIte, reduceCtorEq])) ⟨by omega, by simp⟩
      rintro i ⟨hi, hno⟩
      by_cases hlt : i < l.length
      · obtain ⟨kk, r, ex', cap', wr, rows, hv, hk, hg, _, hat⟩ := hA.pick (j := i) (by simpa using hlt)
        have hrow := hat i (by simpa using hlt)
        have hgo := Heap.get_ext_old hok hg
        have hw := wrap_succ (n := i) (by omega)
        have hci : (i : Int) < (l.length : Int) := by omega
        have hsi : i + 1 ≤ l.length := by omega
        have hget : l[i]? = some l[i] := List.getElem?_eq_getElem hlt
        cases hv
        obtain ⟨kk2, r2, ex2', cap2', wr2, rows2, hv2, hk2, hg2, _, hat2⟩ := hB.pick (j := i) (by simpa [hlen] using hlt)
        have hrow2 := hat2 i (by simpa [hlen] using hlt)
        have hgo2 := Heap.get_ext_old hok hg2
        have hci2 : (i : Int) < (m.length : Int) := by omega
        have hsi2 : i + 1 ≤ m.length := by omega
        have hget2 : m[i]? = some m[i] := List.getElem?_eq_getElem (by omega)
        cases hv2
        have hbad : ¬ l[i] = m[i] → ¬ l = m := fun h e => h (Option.some.inj (by rw [← hget, ← hget2, e]))
        simp only [go_sem, C19L0, Nat.reduceAdd, Nat.reduceSub, Nat.reduceMul, Nat.reduceDiv, Nat.reduceMod, Nat.reduceEqDiff, Nat.reduceLeDiff, Nat.reduceLT, Int.reduceLT, Int.reduceLE, Int.reduceEq, Int.reduceToNat, reduceIte, reduceCtorEq, List.length_map, hw, hgo, hrow, hci, hsi, List.getElem?_eq_getElem hlt, Cell.enc, hrow2, hgo2, hci2, hsi2, hget2]
        have hex : l[i] = m[i] ↔ l[i].key = m[i].key ∧ l[i].value = m[i].value ∧ l[i].ver = m[i].ver ∧ l[i].del = m[i].del ∧ l[i].floor = m[i].floor := by
          cases l[i]; cases m[i]; simp
        refine ⟨fun a1 => ⟨fun a2 => ⟨fun a3 => ⟨fun a4 => ⟨fun a5 => ?_, fun h => ⟨bool_f (hbad fun e => h (hex.1 e).2.2.2.2), _, rfl⟩⟩, fun h => ⟨bool_f (hbad fun e => h (hex.1 e).2.2.2.1), _, rfl⟩⟩, fun h => ⟨bool_f (hbad fun e => h (hex.1 e).2.2.1), _, rfl⟩⟩, fun h => ⟨bool_f (hbad fun e => h (hex.1 e).2.1), _, rfl⟩⟩, fun h => ⟨bool_f (hbad fun e => h (hex.1 e).1), _, rfl⟩⟩
        refine ⟨i + 1, by show l.length - (i + 1) < l.length - i; omega, ?_, _, [], rfl, Wk.mk' rfl (by decide) (by simp only [go_sem, hrho, List.length_map, hrho2, Nat.reduceAdd, Nat.reduceSub, Nat.reduceMul, Nat.reduceDiv, Nat.reduceMod, Nat.reduceEqDiff, Nat.reduceLeDiff, Nat.reduceLT, Int.reduceLT, Int.reduceLE, Int.reduceEq, Int.reduceToNat, reduceIte, reduceCtorEq]) (by simp only [go_sem, hrho, List.length_map, hrho2, Nat.reduceAdd, Nat.reduceSub, Nat.reduceMul, Nat.reduceDiv, Nat.reduceMod, Nat.reduceEqDiff, Nat.reduceLeDiff, Nat.reduceLT, Int.reduceLT, Int.reduceLE, Int.reduceEq, Int.reduceToNat, reduceIte, reduceCtorEq])⟩
        refine ⟨by omega, fun j hj => ?_⟩
        rcases Nat.lt_or_ge j i with g | g
        · exact hno j g
        · obtain rfl : j = i := by omega
          rw [hget, hget2, hex.2 ⟨a1, a2, a3, a4, a5⟩]
      · have hci : ¬ (i : Int) < (l.length : Int) := by omega
        simp only [go_sem, C19L0, Nat.reduceAdd, Nat.reduceSub, Nat.reduceMul, Nat.reduceDiv, Nat.reduceMod, Nat.reduceEqDiff, Nat.reduceLeDiff, Nat.reduceLT, Int.reduceLT, Int.reduceLE, Int.reduceEq, Int.reduceToNat, reduceIte, reduceCtorEq, List.length_map, hci]
        refine ⟨bool_t (List.ext_getElem? fun j => ?_), _, rfl⟩
        rcases Nat.lt_or_ge j l.length with g | g
        · exact hno j (by omega)
        · rw [List.getElem?_eq_none g, List.getElem?_eq_none (by omega)]
    · have hne : ¬ (l.length : Int) = (m.length : Int) := by omega
      skip
      skip
      simp only [go_sem, C19, Nat.reduceAdd, Nat.reduceSub, Nat.reduceMul, Nat.reduceDiv, Nat.reduceMod, Nat.reduceEqDiff, Nat.reduceLeDiff, Nat.reduceLT, Int.reduceLT, Int.reduceLE, Int.reduceEq, Int.reduceToNat, reduceIte, reduceCtorEq, List.length_map, hne]
      exact ⟨bool_f fun h => hlen (by rw [h]), _, rfl⟩

end Go.Proofs
/- What a function hands back that collects rows. -/

set_option linter.all false
namespace Go.Ev
variable {P : Program} {H : Heap}
/-- nil as long as nothing was found, else a new block -/
def outV (k : K) (esz n : Nat) : AV := match n with | 0 => .nils | n + 1 => .slice k 0 (n + 1) esz false (n + 1)
def outB (esz : Nat) (xs : List (List AV)) : Blk := match xs with | [] => .dead | x :: xs => .row true esz (x :: xs)
def outL (esz : Nat) (xs : List (List AV)) : List Blk := match xs with | [] => [] | x :: xs => [.row true esz (x :: xs)]
@[go_sem] theorem outV_zero (k : K) (esz : Nat) : outV k esz 0 = .nils := rfl
@[go_sem] theorem outV_succ (k : K) (esz n : Nat) : outV k esz (n + 1) = .slice k 0 (n + 1) esz false (n + 1) := rfl
@[go_sem] theorem outB_nil (esz : Nat) : outB esz [] = .dead := rfl
@[go_sem] theorem outB_cons (esz : Nat) (x xs) : outB esz (x :: xs) = .row true esz (x :: xs) := rfl
theorem outV_pos {k : K} {esz n : Nat} (h : 0 < n) : outV k esz n = .slice k 0 n esz false n := by cases n with | zero => exact absurd h (Nat.lt_irrefl 0) | succ n => rfl
theorem outL_pos {esz : Nat} {xs : List (List AV)} (h : 0 < xs.length) : outL esz xs = [.row true esz xs] := by cases xs with | nil => exact absurd h (Nat.lt_irrefl 0) | cons x xs => rfl
@[go_sem] theorem outL_nil (esz : Nat) : outL esz [] = [] := rfl
theorem out_arr (esz : Nat) (xs : List (List AV)) : Arr (H.ext (outL esz xs)) esz (outV H.nx esz xs.length) xs := by
  cases xs with
  | nil => exact .inl ⟨rfl, rfl⟩
  | cons x xs =>
    refine .inr ⟨H.nx, 0, false, xs.length + 1, rfl, ?_, fun _ => ⟨0, true, x :: xs, by simp, ?_, by simp⟩⟩
    · rw [Heap.nx_ext, Heap.toNat_key]; simp [outL]
    · rw [← Heap.key_zero, Heap.get_ext_key _ _ _ (by simp [outL])]; rfl
theorem FnOk.dropOld {f : FuncId} {args : List AV} {R : AV → Prop} (h : FnOk P f args H fun v G => R v ∧ ∃ l, G = H.ext l) (hr : ∀ v, R v → ∀ top σ, v.ren (rho H top σ) = v) : FnOk P f args H fun v G => R v ∧ G = H := by
  refine h.wk ?_
  rintro v G ⟨hv, l, rfl⟩
  exact ⟨l, [], [], v, rfl, (hr v hv _ _).symm, rfl, List.nodup_nil, by simp, hv, Heap.ext_nil H⟩
theorem FnOk.dropV {f : FuncId} {args : List AV} {esz : Nat} {xs : List (List AV)} (hx : ∀ ρ, xs.map (AV.rens ρ) = xs)
    (h : FnOk P f args H fun v G => ∃ l i, v = outV (H.key i) esz xs.length ∧ G = H.ext l ∧ l[i]? = some (outB esz xs)) :
    FnOk P f args H fun v G => v = outV H.nx esz xs.length ∧ G = H.ext (outL esz xs) := by
  cases xs with
  | nil =>
    refine (FnOk.drop (R := fun v => v = .nils) (h.mono ?_) ?_).mono ?_
    · rintro v G ⟨l, i, rfl, rfl, _⟩; exact ⟨rfl, _, rfl⟩
    · rintro v rfl ρ; rw [AV.ren]
    · rintro v G ⟨rfl, rfl⟩; exact ⟨rfl, (Heap.ext_nil _).symm⟩
  | cons x xs =>
    refine (FnOk.drop1 (esz := esz) (n := xs.length + 1) (ex := false) (cap := xs.length + 1) (b := .row true esz (x :: xs)) (h.mono ?_) ?_)
    · rintro v G ⟨l, i, rfl, rfl, hl⟩; exact ⟨l, i, rfl, rfl, hl⟩
    · intro ρ
      show Blk.row true esz ((x :: xs).map (AV.rens ρ)) = _
      rw [hx]
theorem takeN_lt {α : Type} {xs : List α} {N : Nat} (c : α) (h : (xs.take N).length < N) : (xs ++ [c]).take N = xs.take N ++ [c] := by
  have hx : xs.length < N := by rw [List.length_take] at h; omega
  rw [List.take_of_length_le (by simp; omega), List.take_of_length_le (by omega)]
theorem takeN_ge {α : Type} {xs : List α} {N : Nat} (ys : List α) (h : ¬ (xs.take N).length < N) : (xs ++ ys).take N = xs.take N := by
  have hx : N ≤ xs.length := by rw [List.length_take] at h; omega
  rw [List.take_append_of_le_length hx]
end Go.Ev
/- index: the cells of a span, walked. -/


set_option linter.all false
set_option maxRecDepth 100000
namespace Go.Proofs
open Go Go.Ev
variable {H : Heap}

noncomputable def withinL (f t : List Nat) (l : List Cell) : List Cell := l.filter fun c => decide (has f t c.key)
theorem withinL_yes {f t : List Nat} {l : List Cell} {i : Nat} {c : Cell} (h : l[i]? = some c) (h2 : has f t c.key) : withinL f t (l.take (i + 1)) = withinL f t (l.take i) ++ [c] := by
  rw [take_next h]; simp [withinL, h2]
theorem withinL_no {f t : List Nat} {l : List Cell} {i : Nat} {c : Cell} (h : l[i]? = some c) (h2 : ¬ has f t c.key) : withinL f t (l.take (i + 1)) = withinL f t (l.take i) := by
  rw [take_next h]; simp [withinL, h2]
theorem withinL_len (f t : List Nat) (l : List Cell) (i : Nat) : (withinL f t (l.take i)).length ≤ i := Nat.le_trans (List.length_filter_le _ _) (by simp; omega)

theorem f20_ok {v : AV} {l : List Cell} (hA : Arr H 5 v (l.map Cell.enc)) (hl : l.length < 4294967296) (f t : List Nat) :
    FnOk Try.prog 20 [v, .agg [.str f, .str t]] H fun r G => r = outV H.nx 5 (withinL f t l).length ∧ G = H.ext (outL 5 ((withinL f t l).map Cell.enc)) := by
  refine FnOk.assume fun hok => ?_
  rw [show (withinL f t l).length = ((withinL f t l).map Cell.enc).length from (List.length_map ..).symm]
  refine FnOk.dropV (Cell.map_rens · _) ?_
  rw [List.length_map]
  refine FnOk.of_WW Try.func20 rfl C20ok R20ok E0 good_E0 ?_
  rcases hA.forms with ⟨rfl, hnil⟩ | ⟨k, off, ex, cap, rfl, hrho⟩
  · have hn0 : l.length = 0 := by simpa using hnil
    simp only [go_sem, C20, Nat.reduceAdd, Nat.reduceSub, Nat.reduceMul, Nat.reduceDiv, Nat.reduceMod, Nat.reduceEqDiff, Nat.reduceLeDiff, Nat.reduceLT, Int.reduceLT, Int.reduceLE, Int.reduceEq, Int.reduceToNat, reduceIte, reduceCtorEq]
    refine LL.st good_E0 (fun i : Nat => l.length - i) (fun i => i ≤ l.length)
      (fun i => [((.o (.o .z)), .ptr (H.key 0) 0), ((.o (.i .z)), outV (H.key 1) 5 (withinL f t (l.take i)).length), ((.i (.o (.o .z))), .nils), ((.o (.i (.o .z))), .int .i64 l.length), ((.i (.i (.o .z))), .int .i64 i)])
      (fun i => [.row true 2 [[.str f, .str t]], outB 5 ((withinL f t (l.take i)).map Cell.enc)]) ?_ 0 (σ := [0, 1]) (Wk.mk' rfl (by decide) (by simp only [go_sem, List.length_map, hn0, List.take_zero, withinL, List.filter_nil, List.length_nil, List.map_nil, Nat.reduceAdd, Nat.reduceSub, Nat.reduceMul, Nat.reduceDiv, Nat.reduceMod, Nat.reduceEqDiff, Nat.reduceLeDiff, Nat.reduceLT, Int.reduceLT, Int.reduceLE, Int.reduceEq, Int.reduceToNat, reduceIte, reduceCtorEq]) (by simp only [go_sem, List.length_map, hn0, List.take_zero, withinL, List.filter_nil, List.length_nil, List.map_nil, Nat.reduceAdd, Nat.reduceSub, Nat.reduceMul, Nat.reduceDiv, Nat.reduceMod, Nat.reduceEqDiff, Nat.reduceLeDiff, Nat.reduceLT, Int.reduceLT, Int.reduceLE, Int.reduceEq, Int.reduceToNat, reduceIte, reduceCtorEq])) (by omega)
    rintro i hi
    by_cases hlt : i < l.length
    · exact absurd hlt (by omega)
    · have hci : ¬ (i : Int) < (l.length : Int) := by omega
      simp only [go_sem, C20L0, Nat.reduceAdd, Nat.reduceSub, Nat.reduceMul, Nat.reduceDiv, Nat.reduceMod, Nat.reduceEqDiff, Nat.reduceLeDiff, Nat.reduceLT, Int.reduceLT, Int.reduceLE, Int.reduceEq, Int.reduceToNat, reduceIte, reduceCtorEq, List.length_map, hci, show ¬ (i : Int) < 0 by omega]
      rw [take_all (by omega)]
      exact ⟨_, 1, rfl, rfl, rfl⟩
  · simp only [go_sem, C20, Nat.reduceAdd, Nat.reduceSub, Nat.reduceMul, Nat.reduceDiv, Nat.reduceMod, Nat.reduceEqDiff, Nat.reduceLeDiff, Nat.reduceLT, Int.reduceLT, Int.reduceLE, Int.reduceEq, Int.reduceToNat, reduceIte, reduceCtorEq]
    refine LL.st good_E0 (fun i : Nat => l.length - i) (fun i => i ≤ l.length)
      (fun i => [((.o (.o .z)), .ptr (H.key 0) 0), ((.o (.i .z)), outV (H.key 1) 5 (withinL f t (l.take i)).length), ((.i (.o (.o .z))), .slice k off (l.map Cell.enc).length 5 ex cap), ((.o (.i (.o .z))), .int .i64 l.length), ((.i (.i (.o .z))), .int .i64 i)])
      (fun i => [.row true 2 [[.str f, .str t]], outB 5 ((withinL f t (l.take i)).map Cell.enc)]) ?_ 0 (σ := [0, 1]) (Wk.mk' rfl (by decide) (by simp only [go_sem, List.length_map, hrho, List.take_zero, withinL, List.filter_nil, List.length_nil, List.map_nil, Nat.reduceAdd, Nat.reduceSub, Nat.reduceMul, Nat.reduceDiv, Nat.reduceMod, Nat.reduceEqDiff, Nat.reduceLeDiff, Nat.reduceLT, Int.reduceLT, Int.reduceLE, Int.reduceEq, Int.reduceToNat, reduceIte, reduceCtorEq]) (by simp only [go_sem, List.length_map, hrho, List.take_zero, withinL, List.filter_nil, List.length_nil, List.map_nil, Nat.reduceAdd, Nat.reduceSub, Nat.reduceMul, Nat.reduceDiv, Nat.reduceMod, Nat.reduceEqDiff, Nat.reduceLeDiff, Nat.reduceLT, Int.reduceLT, Int.reduceLE, Int.reduceEq, Int.reduceToNat, reduceIte, reduceCtorEq])) (by omega)
    rintro i hi
    by_cases hlt : i < l.length
    · obtain ⟨kk, r, ex', cap', wr, rows, hv, hk, hg, _, hat⟩ := hA.pick (j := i) (by simpa using hlt)
      have hrow := hat i (by simpa using hlt)
      have hgo := Heap.get_ext_old hok hg
      have hw := wrap_succ (n := i) (by omega)
      have hci : (i : Int) < (l.length : Int) := by omega
      have hsi : i + 1 ≤ l.length := by omega
      have hget : l[i]? = some l[i] := List.getElem?_eq_getElem hlt
      cases hv
      have hlen := withinL_len f t l i
      rcases hx : withinL f t (l.take i) with _ | ⟨x, xs⟩
      · simp only [go_sem, C20L0, e46, Nat.reduceAdd, Nat.reduceSub, Nat.reduceMul, Nat.reduceDiv, Nat.reduceMod, Nat.reduceEqDiff, Nat.reduceLeDiff, Nat.reduceLT, Int.reduceLT, Int.reduceLE, Int.reduceEq, Int.reduceToNat, reduceIte, reduceCtorEq, List.length_map, hw, hgo, hrow, hci, hsi, List.getElem?_eq_getElem hlt, Cell.enc, List.length_nil, List.map_nil, List.length_cons, List.map_cons, List.replicate_succ, List.replicate_zero, List.set_cons_zero, List.take_succ_cons, List.take_zero, List.take_nil, List.length_append, List.map_append, List.cons_append, List.nil_append, List.drop_succ_cons, List.append_nil]
        refine CL.bool (f49_ok f t l[i].key) (fun h1 => ?_) (fun h1 => ?_)
        · have hnew : withinL f t (l.take (i + 1)) = [l[i]] := by rw [withinL_yes hget h1, hx]; rfl
          try simp only [go_sem, Nat.reduceAdd, Nat.reduceSub, Nat.reduceMul, Nat.reduceDiv, Nat.reduceMod, Nat.reduceEqDiff, Nat.reduceLeDiff, Nat.reduceLT, Int.reduceLT, Int.reduceLE, Int.reduceEq, Int.reduceToNat, reduceIte, reduceCtorEq, List.length_map, hw, hgo, hrow, hci, hsi, List.getElem?_eq_getElem hlt, Cell.enc, List.length_nil, List.map_nil, List.length_cons, List.map_cons, List.replicate_succ, List.replicate_zero, List.set_cons_zero, List.take_succ_cons, List.take_zero, List.take_nil, List.length_append, List.map_append, List.cons_append, List.nil_append, List.drop_succ_cons, List.append_nil]
          refine ⟨i + 1, by show l.length - (i + 1) < l.length - i; omega, ?_, _, [0, 4], rfl, Wk.mk' rfl (by decide) (by simp only [go_sem, hrho, List.length_map, hnew, List.length_nil, List.map_nil, List.length_cons, List.map_cons, List.replicate_succ, List.replicate_zero, List.set_cons_zero, List.take_succ_cons, List.take_zero, List.take_nil, List.length_append, List.map_append, List.cons_append, List.nil_append, List.drop_succ_cons, List.append_nil, Cell.enc, Cell.map_rens, Nat.reduceAdd, Nat.reduceSub, Nat.reduceMul, Nat.reduceDiv, Nat.reduceMod, Nat.reduceEqDiff, Nat.reduceLeDiff, Nat.reduceLT, Int.reduceLT, Int.reduceLE, Int.reduceEq, Int.reduceToNat, reduceIte, reduceCtorEq]) (by simp only [go_sem, hrho, List.length_map, hnew, List.length_nil, List.map_nil, List.length_cons, List.map_cons, List.replicate_succ, List.replicate_zero, List.set_cons_zero, List.take_succ_cons, List.take_zero, List.take_nil, List.length_append, List.map_append, List.cons_append, List.nil_append, List.drop_succ_cons, List.append_nil, Cell.enc, Cell.map_rens, Nat.reduceAdd, Nat.reduceSub, Nat.reduceMul, Nat.reduceDiv, Nat.reduceMod, Nat.reduceEqDiff, Nat.reduceLeDiff, Nat.reduceLT, Int.reduceLT, Int.reduceLE, Int.reduceEq, Int.reduceToNat, reduceIte, reduceCtorEq])⟩
          omega
        · have hnew : withinL f t (l.take (i + 1)) = [] := by rw [withinL_no hget h1, hx]
          try simp only [go_sem, Nat.reduceAdd, Nat.reduceSub, Nat.reduceMul, Nat.reduceDiv, Nat.reduceMod, Nat.reduceEqDiff, Nat.reduceLeDiff, Nat.reduceLT, Int.reduceLT, Int.reduceLE, Int.reduceEq, Int.reduceToNat, reduceIte, reduceCtorEq, List.length_map, hw, hgo, hrow, hci, hsi, List.getElem?_eq_getElem hlt, Cell.enc, List.length_nil, List.map_nil, List.length_cons, List.map_cons, List.replicate_succ, List.replicate_zero, List.set_cons_zero, List.take_succ_cons, List.take_zero, List.take_nil, List.length_append, List.map_append, List.cons_append, List.nil_append, List.drop_succ_cons, List.append_nil]
          refine ⟨i + 1, by show l.length - (i + 1) < l.length - i; omega, ?_, _, [0, 1], rfl, Wk.mk' rfl (by decide) (by simp only [go_sem, hrho, List.length_map, hnew, List.length_nil, List.map_nil, List.length_cons, List.map_cons, List.replicate_succ, List.replicate_zero, List.set_cons_zero, List.take_succ_cons, List.take_zero, List.take_nil, List.length_append, List.map_append, List.cons_append, List.nil_append, List.drop_succ_cons, List.append_nil, Cell.enc, Cell.map_rens, Nat.reduceAdd, Nat.reduceSub, Nat.reduceMul, Nat.reduceDiv, Nat.reduceMod, Nat.reduceEqDiff, Nat.reduceLeDiff, Nat.reduceLT, Int.reduceLT, Int.reduceLE, Int.reduceEq, Int.reduceToNat, reduceIte, reduceCtorEq]) (by simp only [go_sem, hrho, List.length_map, hnew, List.length_nil, List.map_nil, List.length_cons, List.map_cons, List.replicate_succ, List.replicate_zero, List.set_cons_zero, List.take_succ_cons, List.take_zero, List.take_nil, List.length_append, List.map_append, List.cons_append, List.nil_append, List.drop_succ_cons, List.append_nil, Cell.enc, Cell.map_rens, Nat.reduceAdd, Nat.reduceSub, Nat.reduceMul, Nat.reduceDiv, Nat.reduceMod, Nat.reduceEqDiff, Nat.reduceLeDiff, Nat.reduceLT, Int.reduceLT, Int.reduceLE, Int.reduceEq, Int.reduceToNat, reduceIte, reduceCtorEq])⟩
          omega
      · have hfull : ¬ xs.length + 1 ≤ xs.length := by omega
        have htk : List.take xs.length (xs.map Cell.enc) = xs.map Cell.enc := List.take_of_length_le (by simp)
        have hself : xs.length ≤ xs.length := Nat.le_refl _
        have hmx : (2 * (xs.length + 1 + 1) + 192) * 56 ≤ 281474976710656 := by rw [hx] at hlen; simp only [List.length_cons] at hlen; omega
        simp only [go_sem, C20L0, e46, Nat.reduceAdd, Nat.reduceSub, Nat.reduceMul, Nat.reduceDiv, Nat.reduceMod, Nat.reduceEqDiff, Nat.reduceLeDiff, Nat.reduceLT, Int.reduceLT, Int.reduceLE, Int.reduceEq, Int.reduceToNat, reduceIte, reduceCtorEq, List.length_map, hw, hgo, hrow, hci, hsi, List.getElem?_eq_getElem hlt, Cell.enc, List.length_nil, List.map_nil, List.length_cons, List.map_cons, List.replicate_succ, List.replicate_zero, List.set_cons_zero, List.take_succ_cons, List.take_zero, List.take_nil, List.length_append, List.map_append, List.cons_append, List.nil_append, List.drop_succ_cons, List.append_nil, hfull, htk, hself, hmx]
        refine CL.bool (f49_ok f t l[i].key) (fun h1 => ?_) (fun h1 => ?_)
        · have hnew : withinL f t (l.take (i + 1)) = x :: (xs ++ [l[i]]) := by rw [withinL_yes hget h1, hx]; rfl
          try simp only [go_sem, Nat.reduceAdd, Nat.reduceSub, Nat.reduceMul, Nat.reduceDiv, Nat.reduceMod, Nat.reduceEqDiff, Nat.reduceLeDiff, Nat.reduceLT, Int.reduceLT, Int.reduceLE, Int.reduceEq, Int.reduceToNat, reduceIte, reduceCtorEq, List.length_map, hw, hgo, hrow, hci, hsi, List.getElem?_eq_getElem hlt, Cell.enc, List.length_nil, List.map_nil, List.length_cons, List.map_cons, List.replicate_succ, List.replicate_zero, List.set_cons_zero, List.take_succ_cons, List.take_zero, List.take_nil, List.length_append, List.map_append, List.cons_append, List.nil_append, List.drop_succ_cons, List.append_nil, hfull, htk, hself, hmx]
          refine ⟨i + 1, by show l.length - (i + 1) < l.length - i; omega, ?_, _, [0, 4], rfl, Wk.mk' rfl (by decide) (by simp only [go_sem, hrho, List.length_map, hnew, List.length_nil, List.map_nil, List.length_cons, List.map_cons, List.replicate_succ, List.replicate_zero, List.set_cons_zero, List.take_succ_cons, List.take_zero, List.take_nil, List.length_append, List.map_append, List.cons_append, List.nil_append, List.drop_succ_cons, List.append_nil, Cell.enc, Cell.map_rens, Nat.reduceAdd, Nat.reduceSub, Nat.reduceMul, Nat.reduceDiv, Nat.reduceMod, Nat.reduceEqDiff, Nat.reduceLeDiff, Nat.reduceLT, Int.reduceLT, Int.reduceLE, Int.reduceEq, Int.reduceToNat, reduceIte, reduceCtorEq]) (by simp only [go_sem, hrho, List.length_map, hnew, List.length_nil, List.map_nil, List.length_cons, List.map_cons, List.replicate_succ, List.replicate_zero, List.set_cons_zero, List.take_succ_cons, List.take_zero, List.take_nil, List.length_append, List.map_append, List.cons_append, List.nil_append, List.drop_succ_cons, List.append_nil, Cell.enc, Cell.map_rens, Nat.reduceAdd, Nat.reduceSub, Nat.reduceMul, Nat.reduceDiv, Nat.reduceMod, Nat.reduceEqDiff, Nat.reduceLeDiff, Nat.reduceLT, Int.reduceLT, Int.reduceLE, Int.reduceEq, Int.reduceToNat, reduceIte, reduceCtorEq])⟩
          omega
        · have hnew : withinL f t (l.take (i + 1)) = x :: xs := by rw [withinL_no hget h1, hx]
          try simp only [go_sem, Nat.reduceAdd, Nat.reduceSub, Nat.reduceMul, Nat.reduceDiv, Nat.reduceMod, Nat.reduceEqDiff, Nat.reduceLeDiff, Nat.reduceLT, Int.reduceLT, Int.reduceLE, Int.reduceEq, Int.reduceToNat, reduceIte, reduceCtorEq, List.length_map, hw, hgo, hrow, hci, hsi, List.getElem?_eq_getElem hlt, Cell.enc, List.length_nil, List.map_nil, List.length_cons, List.map_cons, List.replicate_succ, List.replicate_zero, List.set_cons_zero, List.take_succ_cons, List.take_zero, List.take_nil, List.length_append, List.map_append, List.cons_append, List.nil_append, List.drop_succ_cons, List.append_nil]
          refine ⟨i + 1, by show l.length - (i + 1) < l.length - i; omega, ?_, _, [0, 1], rfl, Wk.mk' rfl (by decide) (by simp only [go_sem, hrho, List.length_map, hnew, List.length_nil, List.map_nil, List.length_cons, List.map_cons, List.replicate_succ, List.replicate_zero, List.set_cons_zero, List.take_succ_cons, List.take_zero, List.take_nil, List.length_append, List.map_append, List.cons_append, List.nil_append, List.drop_succ_cons, List.append_nil, Cell.enc, Cell.map_rens, Nat.reduceAdd, Nat.reduceSub, Nat.reduceMul, Nat.reduceDiv, Nat.reduceMod, Nat.reduceEqDiff, Nat.reduceLeDiff, Nat.reduceLT, Int.reduceLT, Int.reduceLE, Int.reduceEq, Int.reduceToNat, reduceIte, reduceCtorEq]) (by simp only [go_sem, hrho, List.length_map, hnew, List.length_nil, List.map_nil, List.length_cons, List.map_cons, List.replicate_succ, List.replicate_zero, List.set_cons_zero, List.take_succ_cons, List.take_zero, List.take_nil, List.length_append, List.map_append, List.cons_append, List.nil_append, List.drop_succ_cons, List.append_nil, Cell.enc, Cell.map_rens, Nat.reduceAdd, Nat.reduceSub, Nat.reduceMul, Nat.reduceDiv, Nat.reduceMod, Nat.reduceEqDiff, Nat.reduceLeDiff, Nat.reduceLT, Int.reduceLT, Int.reduceLE, Int.reduceEq, Int.reduceToNat, reduceIte, reduceCtorEq])⟩
          omega
    · have hci : ¬ (i : Int) < (l.length : Int) := by omega
      simp only [go_sem, C20L0, Nat.reduceAdd, Nat.reduceSub, Nat.reduceMul, Nat.reduceDiv, Nat.reduceMod, Nat.reduceEqDiff, Nat.reduceLeDiff, Nat.reduceLT, Int.reduceLT, Int.reduceLE, Int.reduceEq, Int.reduceToNat, reduceIte, reduceCtorEq, List.length_map, hci]
      rw [take_all (by omega)]
      exact ⟨_, 1, rfl, rfl, rfl⟩

theorem f21_ok {v : AV} {l : List Cell} (hA : Arr H 5 v (l.map Cell.enc)) (hl : l.length < 4294967296) (f t : List Nat) :
    FnOk Try.prog 21 [v, .agg [.str f, .str t]] H fun r G => r = outV H.nx 5 (withinL f t l).length ∧ G = H.ext (outL 5 ((withinL f t l).map Cell.enc)) := by
  refine FnOk.assume fun hok => ?_
  rw [show (withinL f t l).length = ((withinL f t l).map Cell.enc).length from (List.length_map ..).symm]
  refine FnOk.dropV (Cell.map_rens · _) ?_
  rw [List.length_map]
  refine FnOk.of_WW Try.func21 rfl C21ok R21ok (pureE F46) good_F46 ?_
  rcases hA.forms with ⟨rfl, hnil⟩ | ⟨k, off, ex, cap, rfl, hrho⟩
  · have hn0 : l.length = 0 := by simpa using hnil
    simp only [go_sem, C21, Nat.reduceAdd, Nat.reduceSub, Nat.reduceMul, Nat.reduceDiv, Nat.reduceMod, Nat.reduceEqDiff, Nat.reduceLeDiff, Nat.reduceLT, Int.reduceLT, Int.reduceLE, Int.reduceEq, Int.reduceToNat, reduceIte, reduceCtorEq]
    refine LL.st good_F46 (fun i : Nat => l.length - i) (fun i => i ≤ l.length)
      (fun i => [(.z, .nils), ((.o (.o .z)), .ptr (H.key 0) 0), ((.o (.i .z)), outV (H.key 1) 5 (withinL f t (l.take i)).length), ((.i (.i .z)), .int .i64 i)])
      (fun i => [.row true 2 [[.str f, .str t]], outB 5 ((withinL f t (l.take i)).map Cell.enc)]) ?_ 0 (σ := [0, 1]) (Wk.mk' rfl (by decide) (by simp only [go_sem, List.length_map, hn0, List.take_zero, withinL, List.filter_nil, List.length_nil, List.map_nil, Nat.reduceAdd, Nat.reduceSub, Nat.reduceMul, Nat.reduceDiv, Nat.reduceMod, Nat.reduceEqDiff, Nat.reduceLeDiff, Nat.reduceLT, Int.reduceLT, Int.reduceLE, Int.reduceEq, Int.reduceToNat, reduceIte, reduceCtorEq]) (by simp only [go_sem, List.length_map, hn0, List.take_zero, withinL, List.filter_nil, List.length_nil, List.map_nil, Nat.reduceAdd, Nat.reduceSub, Nat.reduceMul, Nat.reduceDiv, Nat.reduceMod, Nat.reduceEqDiff, Nat.reduceLeDiff, Nat.reduceLT, Int.reduceLT, Int.reduceLE, Int.reduceEq, Int.reduceToNat, reduceIte, reduceCtorEq])) (by omega)
    rintro i hi
    by_cases hlt : i < l.length
    · exact absurd hlt (by omega)
    · have hci : ¬ (i : Int) < (l.length : Int) := by omega
      simp only [go_sem, C21L0, Nat.reduceAdd, Nat.reduceSub, Nat.reduceMul, Nat.reduceDiv, Nat.reduceMod, Nat.reduceEqDiff, Nat.reduceLeDiff, Nat.reduceLT, Int.reduceLT, Int.reduceLE, Int.reduceEq, Int.reduceToNat, reduceIte, reduceCtorEq, List.length_map, hci, show ¬ (i : Int) < 0 by omega]
      rw [take_all (by omega)]
      exact ⟨_, 1, rfl, rfl, rfl⟩
  · simp only [go_sem, C21, Nat.reduceAdd, Nat.reduceSub, Nat.reduceMul, Nat.reduceDiv, Nat.reduceMod, Nat.reduceEqDiff, Nat.reduceLeDiff, Nat.reduceLT, Int.reduceLT, Int.reduceLE, Int.reduceEq, Int.reduceToNat, reduceIte, reduceCtorEq]
    refine LL.st good_F46 (fun i : Nat => l.length - i) (fun i => i ≤ l.length)
      (fun i => [(.z, .slice k off (l.map Cell.enc).length 5 ex cap), ((.o (.o .z)), .ptr (H.key 0) 0), ((.o (.i .z)), outV (H.key 1) 5 (withinL f t (l.take i)).length), ((.i (.i .z)), .int .i64 i)])
      (fun i => [.row true 2 [[.str f, .str t]], outB 5 ((withinL f t (l.take i)).map Cell.enc)]) ?_ 0 (σ := [0, 1]) (Wk.mk' rfl (by decide) (by simp only [go_sem, List.length_map, hrho, List.take_zero, withinL, List.filter_nil, List.length_nil, List.map_nil, Nat.reduceAdd, Nat.reduceSub, Nat.reduceMul, Nat.reduceDiv, Nat.reduceMod, Nat.reduceEqDiff, Nat.reduceLeDiff, Nat.reduceLT, Int.reduceLT, Int.reduceLE, Int.reduceEq, Int.reduceToNat, reduceIte, reduceCtorEq]) (by simp only [go_sem, List.length_map, hrho, List.take_zero, withinL, List.filter_nil, List.length_nil, List.map_nil, Nat.reduceAdd, Nat.reduceSub, Nat.reduceMul, Nat.reduceDiv, Nat.reduceMod, Nat.reduceEqDiff, Nat.reduceLeDiff, Nat.reduceLT, Int.reduceLT, Int.reduceLE, Int.reduceEq, Int.reduceToNat, reduceIte, reduceCtorEq])) (by omega)
    rintro i hi
    by_cases hlt : i < l.length
    · obtain ⟨kk, r, ex', cap', wr, rows, hv, hk, hg, _, hat⟩ := hA.pick (j := i) (by simpa using hlt)
      have hrow := hat i (by simpa using hlt)
      have hgo := Heap.get_ext_old hok hg
      have hw := wrap_succ (n := i) (by omega)
      have hci : (i : Int) < (l.length : Int) := by omega
      have hsi : i + 1 ≤ l.length := by omega
      have hget : l[i]? = some l[i] := List.getElem?_eq_getElem hlt
      cases hv
      have hlen := withinL_len f t l i
      rcases hx : withinL f t (l.take i) with _ | ⟨x, xs⟩
      · simp only [go_sem, C21L0, e46, Nat.reduceAdd, Nat.reduceSub, Nat.reduceMul, Nat.reduceDiv, Nat.reduceMod, Nat.reduceEqDiff, Nat.reduceLeDiff, Nat.reduceLT, Int.reduceLT, Int.reduceLE, Int.reduceEq, Int.reduceToNat, reduceIte, reduceCtorEq, List.length_map, hw, hgo, hrow, hci, hsi, List.getElem?_eq_getElem hlt, Cell.enc, List.length_nil, List.map_nil, List.length_cons, List.map_cons, List.replicate_succ, List.replicate_zero, List.set_cons_zero, List.take_succ_cons, List.take_zero, List.take_nil, List.length_append, List.map_append, List.cons_append, List.nil_append, List.drop_succ_cons, List.append_nil]
        refine ⟨fun h1 => ?_, fun h1 => ?_⟩
        · have hnew : withinL f t (l.take (i + 1)) = [l[i]] := by rw [withinL_yes hget h1, hx]; rfl
          try simp only [go_sem, Nat.reduceAdd, Nat.reduceSub, Nat.reduceMul, Nat.reduceDiv, Nat.reduceMod, Nat.reduceEqDiff, Nat.reduceLeDiff, Nat.reduceLT, Int.reduceLT, Int.reduceLE, Int.reduceEq, Int.reduceToNat, reduceIte, reduceCtorEq, List.length_map, hw, hgo, hrow, hci, hsi, List.getElem?_eq_getElem hlt, Cell.enc, List.length_nil, List.map_nil, List.length_cons, List.map_cons, List.replicate_succ, List.replicate_zero, List.set_cons_zero, List.take_succ_cons, List.take_zero, List.take_nil, List.length_append, List.map_append, List.cons_append, List.nil_append, List.drop_succ_cons, List.append_nil]
          refine ⟨i + 1, by show l.length - (i + 1) < l.length - i; omega, ?_, _, [0, 3], rfl, Wk.mk' rfl (by decide) (by simp only [go_sem, hrho, List.length_map, hnew, List.length_nil, List.map_nil, List.length_cons, List.map_cons, List.replicate_succ, List.replicate_zero, List.set_cons_zero, List.take_succ_cons, List.take_zero, List.take_nil, List.length_append, List.map_append, List.cons_append, List.nil_append, List.drop_succ_cons, List.append_nil, Cell.enc, Cell.map_rens, Nat.reduceAdd, Nat.reduceSub, Nat.reduceMul, Nat.reduceDiv, Nat.reduceMod, Nat.reduceEqDiff, Nat.reduceLeDiff, Nat.reduceLT, Int.reduceLT, Int.reduceLE, Int.reduceEq, Int.reduceToNat, reduceIte, reduceCtorEq]) (by simp only [go_sem, hrho, List.length_map, hnew, List.length_nil, List.map_nil, List.length_cons, List.map_cons, List.replicate_succ, List.replicate_zero, List.set_cons_zero, List.take_succ_cons, List.take_zero, List.take_nil, List.length_append, List.map_append, List.cons_append, List.nil_append, List.drop_succ_cons, List.append_nil, Cell.enc, Cell.map_rens, Nat.reduceAdd, Nat.reduceSub, Nat.reduceMul, Nat.reduceDiv, Nat.reduceMod, Nat.reduceEqDiff, Nat.reduceLeDiff, Nat.reduceLT, Int.reduceLT, Int.reduceLE, Int.reduceEq, Int.reduceToNat, reduceIte, reduceCtorEq])⟩
          omega
        · have hnew : withinL f t (l.take (i + 1)) = [] := by rw [withinL_no hget h1, hx]
          try simp only [go_sem, Nat.reduceAdd, Nat.reduceSub, Nat.reduceMul, Nat.reduceDiv, Nat.reduceMod, Nat.reduceEqDiff, Nat.reduceLeDiff, Nat.reduceLT, Int.reduceLT, Int.reduceLE, Int.reduceEq, Int.reduceToNat, reduceIte, reduceCtorEq, List.length_map, hw, hgo, hrow, hci, hsi, List.getElem?_eq_getElem hlt, Cell.enc, List.length_nil, List.map_nil, List.length_cons, List.map_cons, List.replicate_succ, List.replicate_zero, List.set_cons_zero, List.take_succ_cons, List.take_zero, List.take_nil, List.length_append, List.map_append, List.cons_append, List.nil_append, List.drop_succ_cons, List.append_nil]
          refine ⟨i + 1, by show l.length - (i + 1) < l.length - i; omega, ?_, _, [0, 1], rfl, Wk.mk' rfl (by decide) (by simp only [go_sem, hrho, List.length_map, hnew, List.length_nil, List.map_nil, List.length_cons, List.map_cons, List.replicate_succ, List.replicate_zero, List.set_cons_zero, List.take_succ_cons, List.take_zero, List.take_nil, List.length_append, List.map_append, List.cons_append, List.nil_append, List.drop_succ_cons, List.append_nil, Cell.enc, Cell.map_rens, Nat.reduceAdd, Nat.reduceSub, Nat.reduceMul, Nat.reduceDiv, Nat.reduceMod, Nat.reduceEqDiff, Nat.reduceLeDiff, Nat.reduceLT, Int.reduceLT, Int.reduceLE, Int.reduceEq, Int.reduceToNat, reduceIte, reduceCtorEq]) (by simp only [go_sem, hrho, List.length_map, hnew, List.length_nil, List.map_nil, List.length_cons, List.map_cons, List.replicate_succ, List.replicate_zero, List.set_cons_zero, List.take_succ_cons, List.take_zero, List.take_nil, List.length_append, List.map_append, List.cons_append, List.nil_append, List.drop_succ_cons, List.append_nil, Cell.enc, Cell.map_rens, Nat.reduceAdd, Nat.reduceSub, Nat.reduceMul, Nat.reduceDiv, Nat.reduceMod, Nat.reduceEqDiff, Nat.reduceLeDiff, Nat.reduceLT, Int.reduceLT, Int.reduceLE, Int.reduceEq, Int.reduceToNat, reduceIte, reduceCtorEq])⟩
          omega
      · have hfull : ¬ xs.length + 1 ≤ xs.length := by omega
        have htk : List.take xs.length (xs.map Cell.enc) = xs.map Cell.enc := List.take_of_length_le (by simp)
        have hself : xs.length ≤ xs.length := Nat.le_refl _
        have hmx : (2 * (xs.length + 1 + 1) + 192) * 56 ≤ 281474976710656 := by rw [hx] at hlen; simp only [List.length_cons] at hlen; omega
        simp only [go_sem, C21L0, e46, Nat.reduceAdd, Nat.reduceSub, Nat.reduceMul, Nat.reduceDiv, Nat.reduceMod, Nat.reduceEqDiff, Nat.reduceLeDiff, Nat.reduceLT, Int.reduceLT, Int.reduceLE, Int.reduceEq, Int.reduceToNat, reduceIte, reduceCtorEq, List.length_map, hw, hgo, hrow, hci, hsi, List.getElem?_eq_getElem hlt, Cell.enc, List.length_nil, List.map_nil, List.length_cons, List.map_cons, List.replicate_succ, List.replicate_zero, List.set_cons_zero, List.take_succ_cons, List.take_zero, List.take_nil, List.length_append, List.map_append, List.cons_append, List.nil_append, List.drop_succ_cons, List.append_nil, hfull, htk, hself, hmx]
        refine ⟨fun h1 => ?_, fun h1 => ?_⟩
        · have hnew : withinL f t (l.take (i + 1)) = x :: (xs ++ [l[i]]) := by rw [withinL_yes hget h1, hx]; rfl
          try simp only [go_sem, Nat.reduceAdd, Nat.reduceSub, Nat.reduceMul, Nat.reduceDiv, Nat.reduceMod, Nat.reduceEqDiff, Nat.reduceLeDiff, Nat.reduceLT, Int.reduceLT, Int.reduceLE, Int.reduceEq, Int.reduceToNat, reduceIte, reduceCtorEq, List.length_map, hw, hgo, hrow, hci, hsi, List.getElem?_eq_getElem hlt, Cell.enc, List.length_nil, List.map_nil, List.length_cons, List.map_cons, List.replicate_succ, List.replicate_zero, List.set_cons_zero, List.take_succ_cons, List.take_zero, List.take_nil, List.length_append, List.map_append, List.cons_append, List.nil_append, List.drop_succ_cons, List.append_nil, hfull, htk, hself, hmx]
          refine ⟨i + 1, by show l.length - (i + 1) < l.length - i; omega, ?_, _, [0, 3], rfl, Wk.mk' rfl (by decide) (by simp only [go_sem, hrho, List.length_map, hnew, List.length_nil, List.map_nil, List.length_cons, List.map_cons, List.replicate_succ, List.replicate_zero, List.set_cons_zero, List.take_succ_cons, List.take_zero, List.take_nil, List.length_append, List.map_append, List.cons_append, List.nil_append, List.drop_succ_cons, List.append_nil, Cell.enc, Cell.map_rens, Nat.reduceAdd, Nat.reduceSub, Nat.reduceMul, Nat.reduceDiv, Nat.reduceMod, Nat.reduceEqDiff, Nat.reduceLeDiff, Nat.reduceLT, Int.reduceLT, Int.reduceLE, Int.reduceEq, Int.reduceToNat, reduceIte, reduceCtorEq]) (by simp only [go_sem, hrho, List.length_map, hnew, List.length_nil, List.map_nil, List.length_cons, List.map_cons, List.replicate_succ, List.replicate_zero, List.set_cons_zero, List.take_succ_cons, List.take_zero, List.take_nil, List.length_append, List.map_append, List.cons_append, List.nil_append, List.drop_succ_cons, List.append_nil, Cell.enc, Cell.map_rens, Nat.reduceAdd, Nat.reduceSub, Nat.reduceMul, Nat.reduceDiv, Nat.reduceMod, Nat.reduceEqDiff, Nat.reduceLeDiff, Nat.reduceLT, Int.reduceLT, Int.reduceLE, Int.reduceEq, Int.reduceToNat, reduceIte, reduceCtorEq])⟩
          omega
        · have hnew : withinL f t (l.take (i + 1)) = x :: xs := by rw [withinL_no hget h1, hx]
          try simp only [go_sem, Nat.reduceAdd, Nat.reduceSub, Nat.reduceMul, Nat.reduceDiv, Nat.reduceMod, Nat.reduceEqDiff, Nat.reduceLeDiff, Nat.reduceLT, Int.reduceLT, Int.reduceLE, Int.reduceEq, Int.reduceToNat, reduceIte, reduceCtorEq, List.length_map, hw, hgo, hrow, hci, hsi, List.getElem?_eq_getElem hlt, Cell.enc, List.length_nil, List.map_nil, List.length_cons, List.map_cons, List.replicate_succ, List.replicate_zero, List.set_cons_zero, List.take_succ_cons, List.take_zero, List.take_nil, List.length_append, List.map_append, List.cons_append, List.nil_append, List.drop_succ_cons, List.append_nil]
          refine ⟨i + 1, by show l.length - (i + 1) < l.length - i; omega, ?_, _, [0, 1], rfl, Wk.mk' rfl (by decide) (by simp only [go_sem, hrho, List.length_map, hnew, List.length_nil, List.map_nil, List.length_cons, List.map_cons, List.replicate_succ, List.replicate_zero, List.set_cons_zero, List.take_succ_cons, List.take_zero, List.take_nil, List.length_append, List.map_append, List.cons_append, List.nil_append, List.drop_succ_cons, List.append_nil, Cell.enc, Cell.map_rens, Nat.reduceAdd, Nat.reduceSub, Nat.reduceMul, Nat.reduceDiv, Nat.reduceMod, Nat.reduceEqDiff, Nat.reduceLeDiff, Nat.reduceLT, Int.reduceLT, Int.reduceLE, Int.reduceEq, Int.reduceToNat, reduceIte, reduceCtorEq]) (by simp only [go_sem, hrho, List.length_map, hnew, List.length_nil, List.map_nil, List.length_cons, List.map_cons, List.replicate_succ, List.replicate_zero, List.set_cons_zero, List.take_succ_cons, List.take_zero, List.take_nil, List.length_append, List.map_append, List.cons_append, List.nil_append, List.drop_succ_cons, List.append_nil, Cell.enc, Cell.map_rens, Nat.reduceAdd, Nat.reduceSub, Nat.reduceMul, Nat.reduceDiv, Nat.reduceMod, Nat.reduceEqDiff, Nat.reduceLeDiff, Nat.reduceLT, Int.reduceLT, Int.reduceLE, Int.reduceEq, Int.reduceToNat, reduceIte, reduceCtorEq])⟩
          omega
    · have hci : ¬ (i : Int) < (l.length : Int) := by omega
      simp only [go_sem, C21L0, Nat.reduceAdd, Nat.reduceSub, Nat.reduceMul, Nat.reduceDiv, Nat.reduceMod, Nat.reduceEqDiff, Nat.reduceLeDiff, Nat.reduceLT, Int.reduceLT, Int.reduceLE, Int.reduceEq, Int.reduceToNat, reduceIte, reduceCtorEq, List.length_map, hci]
      rw [take_all (by omega)]
      exact ⟨_, 1, rfl, rfl, rfl⟩

end Go.Proofs
