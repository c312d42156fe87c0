/- Small functions of keys, spans, cells, walked. -/
import Derived.Test.YtiadcabmonbgiaaZ13
set_option linter.all false
set_option maxRecDepth 100000
namespace Go.Proofs
open Go Go.Ev
variable {H : Heap}
theorem bool_t {p : Prop} [Decidable p] (h : p) : AV.bool true = .bool (decide p) := by rw [decide_eq_true h]
theorem bool_f {p : Prop} [Decidable p] (h : ¬p) : AV.bool false = .bool (decide p) := by rw [decide_eq_false h]
def isKey (k : List Nat) : Prop := ¬ k = [] ∧ (k.length : Int) ≤ 8
instance (k : List Nat) : Decidable (isKey k) := inferInstanceAs (Decidable (_ ∧ _))
theorem f59_ok (k : List Nat) : FnOk Try.prog 59 [.str k] H fun v G => v = .bool (decide (isKey k)) ∧ G = H := by
  refine FnOk.of_WW Try.func59 rfl C59ok R59ok E0 good_E0 ?_
  simp only [go_sem, C59, Nat.reduceAdd, Nat.reduceSub, Nat.reduceMul, Nat.reduceDiv, Nat.reduceMod, Nat.reduceEqDiff, Nat.reduceLeDiff, Nat.reduceLT, Int.reduceLT, Int.reduceLE, Int.reduceEq, Int.reduceToNat, reduceIte, reduceCtorEq]
  repeat' (first | apply And.intro | intro _)
  all_goals first | exact Heap.ext_nil H | simp_all [isKey]
theorem f52_ok (k : List Nat) : FnOk Try.prog 52 [.str k] H fun v G => v = .bool (decide (isKey k)) ∧ G = H := by
  refine FnOk.of_WW Try.func52 rfl C52ok R52ok E0 good_E0 ?_
  simp only [go_sem, C52, Nat.reduceAdd, Nat.reduceSub, Nat.reduceMul, Nat.reduceDiv, Nat.reduceMod, Nat.reduceEqDiff, Nat.reduceLeDiff, Nat.reduceLT, Int.reduceLT, Int.reduceLE, Int.reduceEq, Int.reduceToNat, reduceIte, reduceCtorEq]
  have hl : (1 : Int) ≤ (k.length : Int) ↔ ¬ k = [] := by cases k <;> simp; omega
  repeat' (first | apply And.intro | intro _)
  all_goals first | exact Heap.ext_nil H | simp_all [isKey]
def isSpan (f t : List Nat) : Prop := (f.length : Int) ≤ 8 ∧ (t.length : Int) ≤ 8 ∧ (t = [] ∨ ltS f t)
noncomputable instance (f t : List Nat) : Decidable (isSpan f t) := inferInstanceAs (Decidable (_ ∧ _))
theorem f65_ok (f t : List Nat) : FnOk Try.prog 65 [.agg [.str f, .str t]] H fun v G => v = .bool (decide (isSpan f t)) ∧ G = H := by
  refine FnOk.drop (R := fun v => v = .bool (decide (isSpan f t))) ?_ (by rintro v rfl ρ; rw [AV.ren])
  refine FnOk.of_WW Try.func65 rfl C65ok R65ok E0 good_E0 ?_
  simp only [go_sem, C65, Nat.reduceAdd, Nat.reduceSub, Nat.reduceMul, Nat.reduceDiv, Nat.reduceMod, Nat.reduceEqDiff, Nat.reduceLeDiff, Nat.reduceLT, Int.reduceLT, Int.reduceLE, Int.reduceEq, Int.reduceToNat, reduceIte, reduceCtorEq, not_leS]
  repeat' (first | apply And.intro | intro _)
  all_goals first | exact ⟨_, rfl⟩ | exact bool_t (by unfold isSpan; grind) | exact bool_f (by unfold isSpan; grind)
theorem f63_ok (f t : List Nat) : FnOk Try.prog 63 [.agg [.str f, .str t]] H fun v G => v = .bool (decide (isSpan f t)) ∧ G = H := by
  refine FnOk.drop (R := fun v => v = .bool (decide (isSpan f t))) ?_ (by rintro v rfl ρ; rw [AV.ren])
  refine FnOk.of_WW Try.func63 rfl C63ok R63ok E0 good_E0 ?_
  simp only [go_sem, C63, Nat.reduceAdd, Nat.reduceSub, Nat.reduceMul, Nat.reduceDiv, Nat.reduceMod, Nat.reduceEqDiff, Nat.reduceLeDiff, Nat.reduceLT, Int.reduceLT, Int.reduceLE, Int.reduceEq, Int.reduceToNat, reduceIte, reduceCtorEq, not_leS]
  repeat' (first | apply And.intro | intro _)
  all_goals first | exact ⟨_, rfl⟩ | exact bool_t (by unfold isSpan; grind) | exact bool_f (by unfold isSpan; grind)
def mayBe (k v : List Nat) (n : Int) (d : Bool) : Prop := isKey k ∧ (v.length : Int) ≤ 12 ∧ (d = true → v = []) ∧ 1 ≤ n ∧ n ≤ 1000000000000
instance (k v : List Nat) (n : Int) (d : Bool) : Decidable (mayBe k v n d) := inferInstanceAs (Decidable (_ ∧ _))
theorem f64_ok (f t : List Nat) (v : Int) (d : Bool) : FnOk Try.prog 64 [.str f, .str t, .int .i64 v, .bool d] H fun r G => r = .bool (decide (mayBe f t v d)) ∧ G = H := by
  refine FnOk.of_WW Try.func64 rfl C64ok R64ok E0 good_E0 ?_
  cases d
  all_goals simp only [go_sem, C64, Nat.reduceAdd, Nat.reduceSub, Nat.reduceMul, Nat.reduceDiv, Nat.reduceMod, Nat.reduceEqDiff, Nat.reduceLeDiff, Nat.reduceLT, Int.reduceLT, Int.reduceLE, Int.reduceEq, Int.reduceToNat, reduceIte, reduceCtorEq]
  all_goals refine CL.bool (f59_ok _) (fun h1 => ?_) (fun h1 => ?_)
  all_goals simp only [go_sem, Nat.reduceAdd, Nat.reduceSub, Nat.reduceMul, Nat.reduceDiv, Nat.reduceMod, Nat.reduceEqDiff, Nat.reduceLeDiff, Nat.reduceLT, Int.reduceLT, Int.reduceLE, Int.reduceEq, Int.reduceToNat, reduceIte, reduceCtorEq]
  all_goals repeat' (first | apply And.intro | intro _)
  all_goals first | exact Heap.ext_nil H | exact bool_t (by unfold mayBe; grind) | exact bool_f (by unfold mayBe; grind)

structure Cell where
  key : List Nat
  value : List Nat
  ver : Int
  del : Bool
  floor : Int
  deriving DecidableEq
def Cell.enc (c : Cell) : List AV := [.str c.key, .str c.value, .int .i64 c.ver, .bool c.del, .int .i64 c.floor]
@[go_sem] theorem Cell.rens (ρ : K → K) (c : Cell) : AV.rens ρ c.enc = c.enc := by simp only [Cell.enc, AV.rens, AV.ren]
theorem Cell.map_rens (ρ : K → K) (l : List Cell) : (l.map Cell.enc).map (AV.rens ρ) = l.map Cell.enc := by
  rw [List.map_map]; exact List.map_congr_left fun c _ => Cell.rens ρ c
theorem f45_ok (c : Cell) : FnOk Try.prog 45 [.agg c.enc] H fun v G => v = .bool (decide (0 < c.ver ∧ c.del = false)) ∧ G = H := by
  refine FnOk.drop (R := fun v => v = .bool (decide (0 < c.ver ∧ c.del = false))) ?_ (by rintro v rfl ρ; rw [AV.ren])
  refine FnOk.of_WW Try.func45 rfl C45ok R45ok E0 good_E0 ?_
  simp only [go_sem, C45, Cell.enc, Nat.reduceAdd, Nat.reduceSub, Nat.reduceMul, Nat.reduceDiv, Nat.reduceMod, Nat.reduceEqDiff, Nat.reduceLeDiff, Nat.reduceLT, Int.reduceLT, Int.reduceLE, Int.reduceEq, Int.reduceToNat, reduceIte, reduceCtorEq]
  repeat' (first | apply And.intro | intro _)
  all_goals first | exact ⟨_, rfl⟩ | (cases h : c.del <;> simp_all)
theorem f47_ok (c : Cell) : FnOk Try.prog 47 [.agg c.enc] H fun v G => v = .bool (decide (0 < c.ver ∧ c.del = false)) ∧ G = H := by
  refine FnOk.drop (R := fun v => v = .bool (decide (0 < c.ver ∧ c.del = false))) ?_ (by rintro v rfl ρ; rw [AV.ren])
  refine FnOk.of_WW Try.func47 rfl C47ok R47ok E0 good_E0 ?_
  simp only [go_sem, C47, Cell.enc, Nat.reduceAdd, Nat.reduceSub, Nat.reduceMul, Nat.reduceDiv, Nat.reduceMod, Nat.reduceEqDiff, Nat.reduceLeDiff, Nat.reduceLT, Int.reduceLT, Int.reduceLE, Int.reduceEq, Int.reduceToNat, reduceIte, reduceCtorEq]
  repeat' (first | apply And.intro | intro _)
  all_goals first | exact ⟨_, rfl⟩ | (cases h : c.del <;> simp_all)
def has (f t k : List Nat) : Prop := isSpan f t ∧ isKey k ∧ ¬ ltS k f ∧ (t = [] ∨ ltS k t)
noncomputable instance (f t k : List Nat) : Decidable (has f t k) := inferInstanceAs (Decidable (_ ∧ _))
theorem f49_ok (f t k : List Nat) : FnOk Try.prog 49 [.agg [.str f, .str t], .str k] H fun v G => v = .bool (decide (has f t k)) ∧ G = H := by
  refine FnOk.drop (R := fun v => v = .bool (decide (has f t k))) ?_ (by rintro v rfl ρ; rw [AV.ren])
  refine FnOk.of_WW Try.func49 rfl C49ok R49ok E0 good_E0 ?_
  simp only [go_sem, C49, Nat.reduceAdd, Nat.reduceSub, Nat.reduceMul, Nat.reduceDiv, Nat.reduceMod, Nat.reduceEqDiff, Nat.reduceLeDiff, Nat.reduceLT, Int.reduceLT, Int.reduceLE, Int.reduceEq, Int.reduceToNat, reduceIte, reduceCtorEq]
  refine CL.bool (f65_ok _ _) (fun h1 => ?_) (fun h1 => ?_)
  all_goals simp only [go_sem, Nat.reduceAdd, Nat.reduceSub, Nat.reduceMul, Nat.reduceDiv, Nat.reduceMod, Nat.reduceEqDiff, Nat.reduceLeDiff, Nat.reduceLT, Int.reduceLT, Int.reduceLE, Int.reduceEq, Int.reduceToNat, reduceIte, reduceCtorEq]
  · refine CL.bool (f59_ok _) (fun h2 => ?_) (fun h2 => ?_)
    all_goals simp only [go_sem, Nat.reduceAdd, Nat.reduceSub, Nat.reduceMul, Nat.reduceDiv, Nat.reduceMod, Nat.reduceEqDiff, Nat.reduceLeDiff, Nat.reduceLT, Int.reduceLT, Int.reduceLE, Int.reduceEq, Int.reduceToNat, reduceIte, reduceCtorEq]
    all_goals repeat' (first | apply And.intro | intro _)
    all_goals first | exact ⟨_, rfl⟩ | exact bool_t (by unfold has; grind) | exact bool_f (by unfold has; grind)
  · exact ⟨bool_f (by unfold has; grind), _, rfl⟩
theorem f46_ok (f t k : List Nat) : FnOk Try.prog 46 [.agg [.str f, .str t], .str k] H fun v G => v = .bool (decide (has f t k)) ∧ G = H := by
  refine FnOk.drop (R := fun v => v = .bool (decide (has f t k))) ?_ (by rintro v rfl ρ; rw [AV.ren])
  refine FnOk.of_WW Try.func46 rfl C46ok R46ok E0 good_E0 ?_
  simp only [go_sem, C46, Nat.reduceAdd, Nat.reduceSub, Nat.reduceMul, Nat.reduceDiv, Nat.reduceMod, Nat.reduceEqDiff, Nat.reduceLeDiff, Nat.reduceLT, Int.reduceLT, Int.reduceLE, Int.reduceEq, Int.reduceToNat, reduceIte, reduceCtorEq]
  refine CL.bool (f63_ok _ _) (fun h1 => ?_) (fun h1 => ?_)
  all_goals simp only [go_sem, Nat.reduceAdd, Nat.reduceSub, Nat.reduceMul, Nat.reduceDiv, Nat.reduceMod, Nat.reduceEqDiff, Nat.reduceLeDiff, Nat.reduceLT, Int.reduceLT, Int.reduceLE, Int.reduceEq, Int.reduceToNat, reduceIte, reduceCtorEq]
  · refine CL.bool (f52_ok _) (fun h2 => ?_) (fun h2 => ?_)
    all_goals simp only [go_sem, Nat.reduceAdd, Nat.reduceSub, Nat.reduceMul, Nat.reduceDiv, Nat.reduceMod, Nat.reduceEqDiff, Nat.reduceLeDiff, Nat.reduceLT, Int.reduceLT, Int.reduceLE, Int.reduceEq, Int.reduceToNat, reduceIte, reduceCtorEq]
    all_goals repeat' (first | apply And.intro | intro _)
    all_goals first | exact ⟨_, rfl⟩ | exact bool_t (by unfold has; grind) | exact bool_f (by unfold has; grind)
  · exact ⟨bool_f (by unfold has; grind), _, rfl⟩
def cellIs (c : Cell) : Prop := mayBe c.key c.value c.ver c.del ∧ 0 ≤ c.floor ∧ c.floor ≤ c.ver
instance (c : Cell) : Decidable (cellIs c) := inferInstanceAs (Decidable (_ ∧ _))
theorem f48_ok (c : Cell) : FnOk Try.prog 48 [.agg c.enc] H fun v G => v = .bool (decide (cellIs c)) ∧ G = H := by
  refine FnOk.drop (R := fun v => v = .bool (decide (cellIs c))) ?_ (by rintro v rfl ρ; rw [AV.ren])
  refine FnOk.of_WW Try.func48 rfl C48ok R48ok E0 good_E0 ?_
  simp only [go_sem, C48, Cell.enc, Nat.reduceAdd, Nat.reduceSub, Nat.reduceMul, Nat.reduceDiv, Nat.reduceMod, Nat.reduceEqDiff, Nat.reduceLeDiff, Nat.reduceLT, Int.reduceLT, Int.reduceLE, Int.reduceEq, Int.reduceToNat, reduceIte, reduceCtorEq]
  refine CL.bool (f64_ok _ _ _ _) (fun h1 => ?_) (fun h1 => ?_)
  all_goals simp only [go_sem, Nat.reduceAdd, Nat.reduceSub, Nat.reduceMul, Nat.reduceDiv, Nat.reduceMod, Nat.reduceEqDiff, Nat.reduceLeDiff, Nat.reduceLT, Int.reduceLT, Int.reduceLE, Int.reduceEq, Int.reduceToNat, reduceIte, reduceCtorEq]
  all_goals repeat' (first | apply And.intro | intro _)
  all_goals first | exact ⟨_, rfl⟩ | exact bool_t (by unfold cellIs; grind) | exact bool_f (by unfold cellIs; grind)
theorem f24_ok (c : Cell) : FnOk Try.prog 24 [.agg c.enc] H fun v G => v = .bool (decide (cellIs c)) ∧ G = H := by
  refine FnOk.drop (R := fun v => v = .bool (decide (cellIs c))) ?_ (by rintro v rfl ρ; rw [AV.ren])
  refine FnOk.of_WW Try.func24 rfl C24ok R24ok E0 good_E0 ?_
  obtain ⟨key, value, ver, del, floor⟩ := c
  cases del
  all_goals simp only [go_sem, C24, Cell.enc, Nat.reduceAdd, Nat.reduceSub, Nat.reduceMul, Nat.reduceDiv, Nat.reduceMod, Nat.reduceEqDiff, Nat.reduceLeDiff, Nat.reduceLT, Int.reduceLT, Int.reduceLE, Int.reduceEq, Int.reduceToNat, reduceIte, reduceCtorEq]
  all_goals refine CL.bool (f52_ok _) (fun h1 => ?_) (fun h1 => ?_)
  all_goals simp only [go_sem, Nat.reduceAdd, Nat.reduceSub, Nat.reduceMul, Nat.reduceDiv, Nat.reduceMod, Nat.reduceEqDiff, Nat.reduceLeDiff, Nat.reduceLT, Int.reduceLT, Int.reduceLE, Int.reduceEq, Int.reduceToNat, reduceIte, reduceCtorEq]
  all_goals repeat' (first | apply And.intro | intro _)
  all_goals first | exact ⟨_, rfl⟩ | exact bool_t (by unfold cellIs mayBe; grind) | exact bool_f (by unfold cellIs mayBe; grind)
end Go.Proofs
/- What a function hands back that collects rows. -/

set_option linter.all false
namespace Go.Ev
variable {P : Program} {H : Heap}
/-- nil as long as nothing was found, else a new block -/
def outV (k : K) (esz n : Nat) : AV := match n with | 0 => .nils | n + 1 => .slice k 0 (n + 1) esz false (n + 1)
def outB (esz : Nat) (xs : List (List AV)) : Blk := match xs with | [] => .dead | x :: xs => .row true esz (x :: xs)
def outL (esz : Nat) (xs : List (List AV)) : List Blk := match xs with | [] => [] | x :: xs => [.row true esz (x :: xs)]
@[go_sem] theorem outV_zero (k : K) (esz : Nat) : outV k esz 0 = .nils := rfl
@[go_sem] theorem outV_succ (k : K) (esz n : Nat) : outV k esz (n + 1) = .slice k 0 (n + 1) esz false (n + 1) := rfl
@[go_sem] theorem outB_nil (esz : Nat) : outB esz [] = .dead := rfl
@[go_sem] theorem outB_cons (esz : Nat) (x xs) : outB esz (x :: xs) = .row true esz (x :: xs) := rfl
theorem outV_pos {k : K} {esz n : Nat} (h : 0 < n) : outV k esz n = .slice k 0 n esz false n := by cases n with | zero => exact absurd h (Nat.lt_irrefl 0) | succ n => rfl
theorem outL_pos {esz : Nat} {xs : List (List AV)} (h : 0 < xs.length) : outL esz xs = [.row true esz xs] := by cases xs with | nil => exact absurd h (Nat.lt_irrefl 0) | cons x xs => rfl
@[go_sem] theorem outL_nil (esz : Nat) : outL esz [] = [] := rfl
theorem out_arr (esz : Nat) (xs : List (List AV)) : Arr (H.ext (outL esz xs)) esz (outV H.nx esz xs.length) xs := by
  cases xs with
  | nil => exact .inl ⟨rfl, rfl⟩
  | cons x xs =>
    refine .inr ⟨H.nx, 0, false, xs.length + 1, rfl, ?_, fun _ => ⟨0, true, x :: xs, by simp, ?_, by simp⟩⟩
    · rw [Heap.nx_ext, Heap.toNat_key]; simp [outL]
    · rw [← Heap.key_zero, Heap.get_ext_key _ _ _ (by simp [outL])]; rfl
theorem FnOk.dropOld {f : FuncId} {args : List AV} {R : AV → Prop} (h : FnOk P f args H fun v G => R v ∧ ∃ l, G = H.ext l) (hr : ∀ v, R v → ∀ top σ, v.ren (rho H top σ) = v) : FnOk P f args H fun v G => R v ∧ G = H := by
  refine h.wk ?_
  rintro v G ⟨hv, l, rfl⟩
  exact ⟨l, [], [], v, rfl, (hr v hv _ _).symm, rfl, List.nodup_nil, by simp, hv, Heap.ext_nil H⟩
theorem FnOk.dropV {f : FuncId} {args : List AV} {esz : Nat} {xs : List (List AV)} (hx : ∀ ρ, xs.map (AV.rens ρ) = xs)
    (h : FnOk P f args H fun v G => ∃ l i, v = outV (H.key i) esz xs.length ∧ G = H.ext l ∧ l[i]? = some (outB esz xs)) :
    FnOk P f args H fun v G => v = outV H.nx esz xs.length ∧ G = H.ext (outL esz xs) := by
  cases xs with
  | nil =>
    refine (FnOk.drop (R := fun v => v = .nils) (h.mono ?_) ?_).mono ?_
    · rintro v G ⟨l, i, rfl, rfl, _⟩; exact ⟨rfl, _, rfl⟩
    · rintro v rfl ρ; rw [AV.ren]
    · rintro v G ⟨rfl, rfl⟩; exact ⟨rfl, (Heap.ext_nil _).symm⟩
  | cons x xs =>
    refine (FnOk.drop1 (esz := esz) (n := xs.length + 1) (ex := false) (cap := xs.length + 1) (b := .row true esz (x :: xs)) (h.mono ?_) ?_)
    · rintro v G ⟨l, i, rfl, rfl, hl⟩; exact ⟨l, i, rfl, rfl, hl⟩
    · intro ρ
      show Blk.row true esz ((x :: xs).map (AV.rens ρ)) = _
      rw [hx]
theorem takeN_lt {α : Type} {xs : List α} {N : Nat} (c : α) (h : (xs.take N).length < N) : (xs ++ [c]).take N = xs.take N ++ [c] := by
  have hx : xs.length < N := by rw [List.length_take] at h; omega
  rw [List.take_of_length_le (by simp; omega), List.take_of_length_le (by omega)]
theorem takeN_ge {α : Type} {xs : List α} {N : Nat} (ys : List α) (h : ¬ (xs.take N).length < N) : (xs ++ ys).take N = xs.take N := by
  have hx : N ≤ xs.length := by rw [List.length_take] at h; omega
  rw [List.take_append_of_le_length hx]
end Go.Ev
/- Conversions, as rules. -/

set_option linter.all false
namespace Go.Ev
@[go_sem] theorem convR_int (k : IntKind) (x : X) (T : Tr AV) (H : Heap) : convR (.int k) x T H = withX T x .fail fun v => asIntC v .fail fun _ n => wrapC k n fun n => .val (.int k n) H := rfl
@[go_sem] theorem convR_b2s (x : X) (T : Tr AV) (H : Heap) : convR .b2s x T H = withX T x .fail fun v => asSliceC v .fail (.val (.str []) H) fun k off len _ _ _ => loadC H k off len .fail fun l => bytesC l .fail fun ns => .val (.str ns) H := rfl
end Go.Ev
/- Slices that may be nil, handled as one: rules. -/

set_option linter.all false
namespace Go.Ev
variable {P : Program} {H : Heap}
theorem outV_ren' (ρ : K → K) (k : K) (e n : Nat) : AV.ren ρ (outV k e n) = outV (ρ k) e n := by
  cases n with
  | zero => show AV.ren ρ .nils = .nils; rw [AV.ren]
  | succ n => show AV.ren ρ (.slice k 0 (n + 1) e false (n + 1)) = .slice (ρ k) 0 (n + 1) e false (n + 1); rw [AV.ren]
theorem outB_ren' (ρ : K → K) {e : Nat} {xs : List (List AV)} (h : xs.map (AV.rens ρ) = xs) : Blk.ren ρ (outB e xs) = outB e xs := by
  cases xs with
  | nil => rfl
  | cons x xs => show Blk.row true e ((x :: xs).map (AV.rens ρ)) = Blk.row true e (x :: xs); rw [h]
theorem outB_pos {e : Nat} {xs : List (List AV)} (h : 0 < xs.length) : outB e xs = .row true e xs := by
  cases xs with
  | nil => exact absurd h (by decide)
  | cons x xs => rfl
theorem outB_snoc (e : Nat) (xs : List (List AV)) (y : List AV) : outB e (xs ++ [y]) = .row true e (xs ++ [y]) := outB_pos (by simp)
@[go_sem] theorem len_out (k : K) (e n : Nat) (G : Heap) : asSliceC (outV k e n) R1.fail (R1.val (AV.int IntKind.i64 0) G) (fun _ _ len _ _ _ => R1.val (AV.int IntKind.i64 (len : Int)) G) = R1.val (.int .i64 n) G := by
  cases n with
  | zero => rfl
  | succ n => rfl
theorem Arr.len {v : AV} {esz : Nat} {xs : List (List AV)} (h : Arr H esz v xs) (G : Heap) : asSliceC v R1.fail (R1.val (AV.int IntKind.i64 0) G) (fun _ _ len _ _ _ => R1.val (AV.int IntKind.i64 (len : Int)) G) = R1.val (.int .i64 xs.length) G := by
  rcases h.forms with ⟨rfl, rfl⟩ | ⟨k, off, ex, cap, rfl, _⟩ <;> rfl
theorem Arr.at {v : AV} {esz : Nat} {xs : List (List AV)} (hok : H.ok) (h : Arr H esz v xs) {j : Nat} (hj : j < xs.length) : ∃ k r ex cap wr rows, v = .slice k (r * esz) xs.length esz ex cap ∧ (∀ top σ, rho H top σ k = k) ∧ (∀ L, (H.ext L).get k = some (.row wr esz rows)) ∧ rows[r + j]? = some xs[j] := by
  obtain ⟨k, r, ex, cap, wr, rows, e, hk, hg, _, hat⟩ := h.pick hj
  exact ⟨k, r, ex, cap, wr, rows, e, fun _ _ => rho_old hk, Heap.get_ext_old hok hg, by rw [hat j hj, List.getElem?_eq_getElem hj]⟩
theorem bytesC_one {β : Type} {m : Nat} (h : m ≤ 255) (f : β) (c : List Nat → β) : bytesC [.int .u8 (m : Int)] f c = c [m] := by
  show bif' (Nat.beq (kn .u8) 4) (bif' (Nat.ble m 255) (c [m]) f) f = c [m]
  rw [show Nat.beq (kn .u8) 4 = true from rfl, bif_true, show Nat.ble m 255 = true by rw [Nat.ble_eq]; exact h, bif_true]
theorem wrap_u8 {m : Nat} (h : m ≤ 255) : IntKind.u8.wrap (m : Int) = m := wrap_nat .u8 m h
/-- one more put behind a list that may be none: the old block is let go -/
theorem appR_out {L : List Blk} {i j n esz bytes : Nat} {xs : List (List AV)} {y : List AV} {x z : X} {T : Tr AV} {wr ex : Bool} {cap : Nat} (hx : evX T x = some (outV (H.key i) esz n)) (hz : evX T z = some (.slice (H.key j) 0 1 esz ex cap))
    (hi : L[i]? = some (outB esz xs)) (hn : xs.length = n) (hj : L[j]? = some (.row wr esz [y])) (hb : okBig (n + 1) bytes = true) :
    appR esz bytes x z T (H.ext L) = .val (outV (H.key L.length) esz (n + 1)) (H.ext (L.set i .dead ++ [outB esz (xs ++ [y])])) := by
  have hxw : ∀ {f : R1} {c : AV → R1}, withX T x f c = c (outV (H.key i) esz n) := by intro f c; unfold withX; rw [hx]
  have hzw : ∀ {f : R1} {c : AV → R1}, withX T z f c = c (.slice (H.key j) 0 1 esz ex cap) := by intro f c; unfold withX; rw [hz]
  have hil := (List.getElem?_eq_some_iff.1 hi).1
  have hjl := (List.getElem?_eq_some_iff.1 hj).1
  have hb1 : (2 * (n + 1) + 192) * bytes ≤ 281474976710656 := by unfold okBig at hb; rwa [Nat.ble_eq] at hb
  unfold appR
  rw [hxw, hzw]
  cases xs with
  | nil =>
    obtain rfl : n = 0 := hn.symm
    have hset : L.set i .dead = L := by
      refine List.ext_getElem? fun m => ?_
      rw [List.getElem?_set]
      split
      · rename_i hm; subst hm; rw [hi]; first | rfl | (rw [if_pos hil]; rfl)
      · rfl
    simp only [go_sem, Heap.get_ext_key _ _ _ hjl, hj, List.drop_zero, List.take_succ_cons, List.take_zero, List.length_cons, List.length_nil, Nat.zero_mod, Nat.zero_div, Nat.reduceAdd, Nat.reduceSub, Nat.reduceMul, Nat.reduceDiv, Nat.reduceMod, Nat.reduceEqDiff, Nat.reduceLeDiff, Nat.reduceLT, reduceIte, hset, List.nil_append]
    rw [if_pos (by simpa using hb1)]
  | cons a xs =>
    subst hn
    rw [outV_pos (by simp)]
    simp only [go_sem, Heap.get_ext_key _ _ _ hjl, Heap.get_ext_key _ _ _ hil, hi, hj, List.drop_zero, List.take_succ_cons, List.take_zero, List.length_cons, List.length_nil, Nat.zero_mod, Nat.zero_div, Nat.reduceAdd, Nat.reduceSub, Nat.reduceMul, Nat.reduceDiv, Nat.reduceMod, Nat.reduceEqDiff, Nat.reduceLeDiff, Nat.reduceLT, reduceIte, List.take_length, List.cons_append]
    rw [if_pos (Nat.le_refl _), if_neg (by omega), if_pos (by simpa using hb1), Heap.setC_ext _ _ _ _ _ hil, Heap.addC_ext, List.length_set]
/-- an append whose operands are seen, left as it is -/
noncomputable def appQ (esz bytes : Nat) (a b : Option AV) (H : Heap) : R1 := match a, b with
  | some v, some w => appR esz bytes (.c v) (.c w) .lf H
  | _, _ => .fail
theorem appR_hide (esz bytes : Nat) (a b : K) (T : Tr AV) (H : Heap) : appR esz bytes (.t a) (.t b) T H = appQ esz bytes (T.get a) (T.get b) H := by
  unfold appR appQ
  simp only [withX_t, withX_c]
  cases T.get a <;> cases T.get b <;> rfl
theorem okBig_le {n bytes : Nat} (h : n ≤ 1000000000) (hb : bytes ≤ 1000) : okBig n bytes = true := by
  unfold okBig
  rw [Nat.ble_eq]
  exact Nat.le_trans (Nat.mul_le_mul (Nat.add_le_add (Nat.mul_le_mul (Nat.le_refl 2) h) (Nat.le_refl _)) hb) (by decide)
/-- the same, ahead of what is still to be done -/
theorem RW_app {E : FuncId → List AV → Heap → RC} {N : Nat} {k : List It} {Q : Ex → Tr AV → Heap → Prop} {d : Option K} {T' : Tr AV} {G : Heap} {L : List Blk} {esz bytes i j n : Nat} (xs : List (List AV)) (y : List AV) {wr ex : Bool} {cap : Nat}
    (hi : L[i]? = some (outB esz xs)) (hn : xs.length = n) (hj : L[j]? = some (.row wr esz [y])) (hb : okBig (n + 1) bytes = true)
    (h : WW P E N H k (putD T' d (outV (H.key L.length) esz (n + 1))) (H.ext (L.set i .dead ++ [outB esz (xs ++ [y])])) Q) : RW P E N H (appQ esz bytes (some (outV (H.key i) esz n)) (some (.slice (H.key j) 0 1 esz ex cap)) (H.ext L)) d k T' G Q := by
  show RW P E N H (appR esz bytes (.c (outV (H.key i) esz n)) (.c (.slice (H.key j) 0 1 esz ex cap)) .lf (H.ext L)) d k T' G Q
  rw [appR_out rfl rfl hi hn hj hb]
  exact h
/-- the blocks that are kept, one after the other -/
def WkB (l : List Blk) (ρ : K → K) : List Blk → List Nat → Prop
  | b :: bs, i :: σ => (b.live → l[i]? = some (b.ren ρ)) ∧ WkB l ρ bs σ
  | _, _ => True
@[go_sem] theorem WkB_nil (l : List Blk) (ρ : K → K) (σ : List Nat) : WkB l ρ [] σ = True := by cases σ <;> rfl
@[go_sem] theorem WkB_cons (l : List Blk) (ρ : K → K) (b bs i σ) : WkB l ρ (b :: bs) (i :: σ) = ((b.live → l[i]? = some (b.ren ρ)) ∧ WkB l ρ bs σ) := rfl
theorem WkB.all {l : List Blk} {ρ : K → K} : ∀ {bs : List Blk} {σ : List Nat}, WkB l ρ bs σ → ∀ p ∈ bs.zip σ, p.1.live → l[p.2]? = some (p.1.ren ρ)
  | [], _, _, p, hp => by simp at hp
  | _ :: _, [], _, p, hp => by simp at hp
  | b :: bs, i :: σ, h, p, hp => by
    rw [List.zip_cons_cons, List.mem_cons] at hp
    rcases hp with rfl | hp
    · exact h.1
    · exact WkB.all h.2 p hp
theorem Wk.of {H : Heap} {T : Tr AV} {l : List Blk} {ts : List (K × AV)} {l2 : List Blk} {σ : List Nat} (h1 : l2.length = σ.length) (h2 : σ.Nodup) (h3 : ∀ p ∈ ts, T.get p.1 = some (p.2.ren (rho H l.length σ))) (h4 : WkB l (rho H l.length σ) l2 σ) : Wk H T l ts l2 σ := .mk' h1 h2 h3 h4.all
end Go.Ev
/- Clone and Insert at an empty slice. -/

set_option linter.all false
namespace Go.Ev
variable {P : Program} {H : Heap}
theorem clone_zero {f : FuncId} {esz bytes : Nat} {zero : List AV} (hf : CloFn P f esz bytes zero) {k : K} {off : Nat} {ex : Bool} {cap : Nat} :
    FnOk P f [.slice k off 0 esz ex cap] H fun v G => v = .slice H.nx 0 0 esz true 0 ∧ G = H.ext [.row true esz []] := by
  obtain ⟨fn, h1, h2, h3⟩ := hf.fn
  have hpos := hf.pos
  refine FnOk.of_WW h1 rfl h2 h3 E0 good_E0 ?_
  simp only [go_sem, cloCC, List.replicate_zero, Heap.key_zero, Nat.reduceAdd, Nat.reduceSub, Nat.reduceMul, Nat.reduceDiv, Nat.reduceMod, Nat.reduceEqDiff, Nat.reduceLeDiff, Nat.reduceLT, Int.reduceLT, Int.reduceLE, Int.reduceEq, reduceIte, reduceCtorEq]
theorem insert_zero {f : FuncId} {esz bytes : Nat} {zero : List AV} (hf : InsFn P f esz bytes zero) {kv k : K} {wr : Bool} {x : List AV} (hv : H.get kv = some (.row wr esz [x])) (hg : H.get k = some (.row true esz [])) (hb : 194 * bytes ≤ 281474976710656) :
    FnOk P f [.slice k 0 0 esz true 0, .int .i64 0, .slice kv 0 1 esz true 1] H fun v G => v = .slice H.nx 0 1 esz false 1 ∧ G = H.ext [.row true esz [x]] := by
  obtain ⟨fn, ov, rr, h1, h2, h3, h4, h5⟩ := hf.fn
  have hpos := hf.pos
  refine FnOk.assume fun hok => ?_
  have hgk := Heap.get_ext_old hok hg
  have hgv := Heap.get_ext_old hok hv
  refine FnOk.of_WW h1 rfl h2 h3 E0 good_E0 ?_
  simp only [go_sem, insCC, hgk, hgv, hb, Nat.zero_mod, Nat.zero_div, Nat.zero_le, Nat.reduceAdd, Nat.reduceSub, Nat.reduceMul, Nat.reduceDiv, Nat.reduceMod, Nat.reduceEqDiff, Nat.reduceLeDiff, Nat.reduceLT, Int.reduceLT, Int.reduceLE, Int.reduceEq, Int.reduceToNat, reduceIte, reduceCtorEq, Heap.key_zero]
end Go.Ev
/- A slice of one's own: nil, empty, or with elements; what makes one, what puts one in. -/


set_option linter.all false
namespace Go.Ev
variable {P : Program} {H : Heap}
/-- a slice of one's own: an empty one is nil, or has room for nothing -/
def zV (z : Bool) (k : K) (esz n : Nat) : AV := match n with
  | 0 => if z then .nils else .slice k 0 0 esz true 0
  | n + 1 => .slice k 0 (n + 1) esz false (n + 1)
def zB (z : Bool) (esz : Nat) (xs : List (List AV)) : Blk := match xs with
  | [] => if z then .dead else .row true esz []
  | x :: xs => .row true esz (x :: xs)
theorem zV_t (k : K) (esz n : Nat) : zV true k esz n = outV k esz n := by cases n <;> rfl
theorem zB_t (esz : Nat) (xs : List (List AV)) : zB true esz xs = outB esz xs := by cases xs <;> rfl
theorem zV_pos {z : Bool} {k : K} {esz n : Nat} (h : 0 < n) : zV z k esz n = .slice k 0 n esz false n := by
  cases n with
  | zero => exact absurd h (by decide)
  | succ n => rfl
theorem zB_pos {z : Bool} {esz : Nat} {xs : List (List AV)} (h : 0 < xs.length) : zB z esz xs = .row true esz xs := by
  cases xs with
  | nil => exact absurd h (by decide)
  | cons x xs => rfl
theorem zV_ren (ρ : K → K) (z : Bool) (k : K) (e n : Nat) : AV.ren ρ (zV z k e n) = zV z (ρ k) e n := by
  cases n with
  | zero => cases z <;> (show AV.ren ρ _ = _) <;> simp only [zV, AV.ren, if_true, Bool.false_eq_true, if_false]
  | succ n => show AV.ren ρ (.slice k 0 (n + 1) e false (n + 1)) = .slice (ρ k) 0 (n + 1) e false (n + 1); rw [AV.ren]
theorem zB_ren (ρ : K → K) {z : Bool} {e : Nat} {xs : List (List AV)} (h : xs.map (AV.rens ρ) = xs) : Blk.ren ρ (zB z e xs) = zB z e xs := by
  cases xs with
  | nil => cases z <;> rfl
  | cons x xs => show Blk.row true e ((x :: xs).map (AV.rens ρ)) = Blk.row true e (x :: xs); rw [h]
@[go_sem] theorem len_z (z : Bool) (k : K) (e n : Nat) (G : Heap) : asSliceC (zV z k e n) R1.fail (R1.val (AV.int IntKind.i64 0) G) (fun _ _ len _ _ _ => R1.val (AV.int IntKind.i64 (len : Int)) G) = R1.val (.int .i64 n) G := by
  cases n with
  | zero => cases z <;> rfl
  | succ n => rfl
theorem zB_arr {z : Bool} {L : List Blk} {esz i : Nat} {xs : List (List AV)} (h : L[i]? = some (zB z esz xs)) : Arr (H.ext L) esz (zV z (H.key i) esz xs.length) xs := by
  have hi := (List.getElem?_eq_some_iff.1 h).1
  cases xs with
  | nil =>
    cases z
    · refine .inr ⟨H.key i, 0, true, 0, rfl, ?_, fun e => absurd rfl e⟩
      rw [Heap.nx_ext, Heap.toNat_key, Heap.toNat_key]; omega
    · exact .inl ⟨rfl, rfl⟩
  | cons x xs =>
    refine .inr ⟨H.key i, 0, false, xs.length + 1, rfl, ?_, fun _ => ⟨0, true, x :: xs, by simp, ?_, by simp⟩⟩
    · rw [Heap.nx_ext, Heap.toNat_key, Heap.toNat_key]; omega
    · rw [Heap.get_ext_key _ _ _ hi, h]; rfl
/-- what a function hands back: a slice of its own, all else let go -/
theorem FnOk.dropZ {f : FuncId} {args : List AV} {esz : Nat} {xs : List (List AV)} (hx : ∀ ρ, xs.map (AV.rens ρ) = xs)
    (h : FnOk P f args H fun v G => ∃ z l i, v = zV z (H.key i) esz xs.length ∧ G = H.ext l ∧ ((zB z esz xs).live → l[i]? = some (zB z esz xs))) :
    FnOk P f args H fun v G => ∃ z, v = zV z H.nx esz xs.length ∧ G = H.ext [zB z esz xs] := by
  refine h.wk ?_
  rintro v G ⟨z, l, i, rfl, rfl, hl⟩
  refine ⟨l, [zB z esz xs], [i], zV z H.nx esz xs.length, rfl, ?_, rfl, by simp, ?_, z, rfl, rfl⟩
  · rw [zV_ren, ← Heap.key_zero, rho_key rfl]
  · intro p hp
    simp only [List.zip_cons_cons, List.zip_nil_left, List.mem_singleton] at hp
    subst hp
    intro hlive
    show l[i]? = some (Blk.ren _ (zB z esz xs))
    rw [zB_ren _ (hx _), hl hlive]
theorem FnOk.dropZn {f : FuncId} {args : List AV} {esz n : Nat} {xs : List (List AV)} (hn : xs.length = n) (hx : ∀ ρ, xs.map (AV.rens ρ) = xs)
    (h : FnOk P f args H fun v G => ∃ z l i, v = zV z (H.key i) esz n ∧ G = H.ext l ∧ ((zB z esz xs).live → l[i]? = some (zB z esz xs))) :
    FnOk P f args H fun v G => ∃ z, v = zV z H.nx esz n ∧ G = H.ext [zB z esz xs] := by subst hn; exact FnOk.dropZ hx h
/-- the same of one that is nil where it is empty -/
theorem FnOk.dropO {f : FuncId} {args : List AV} {esz n : Nat} {xs : List (List AV)} (hn : xs.length = n) (hx : ∀ ρ, xs.map (AV.rens ρ) = xs)
    (h : FnOk P f args H fun v G => ∃ l i, v = outV (H.key i) esz n ∧ G = H.ext l ∧ ((outB esz xs).live → l[i]? = some (outB esz xs))) :
    FnOk P f args H fun v G => v = outV H.nx esz n ∧ G = H.ext [outB esz xs] := by
  subst hn
  refine h.wk ?_
  rintro v G ⟨l, i, rfl, rfl, hl⟩
  refine ⟨l, [outB esz xs], [i], outV H.nx esz xs.length, rfl, ?_, rfl, by simp, ?_, rfl, rfl⟩
  · rw [outV_ren', ← Heap.key_zero, rho_key rfl]
  · intro p hp
    simp only [List.zip_cons_cons, List.zip_nil_left, List.mem_singleton] at hp
    subst hp
    intro hlive
    show l[i]? = some (Blk.ren _ (outB esz xs))
    rw [outB_ren' _ (hx _), hl hlive]
theorem clone_z {f : FuncId} {esz bytes : Nat} {zero : List AV} (hf : CloFn P f esz bytes zero) {v : AV} {xs : List (List AV)} (hA : Arr H esz v xs) (hb : (2 * xs.length + 192) * bytes ≤ 281474976710656) (hx : ∀ ρ, xs.map (AV.rens ρ) = xs) :
    FnOk P f [v] H fun r G => ∃ z, r = zV z H.nx esz xs.length ∧ G = H.ext [zB z esz xs] := by
  refine FnOk.dropZ hx ?_
  rcases hA with ⟨rfl, rfl⟩ | ⟨k, off, ex, cap, rfl, hk, h⟩
  · refine (clone_nil hf).mono ?_
    rintro v G ⟨rfl, rfl⟩
    exact ⟨true, [], 0, rfl, (Heap.ext_nil _).symm, fun h => h.elim⟩
  · rcases Nat.eq_zero_or_pos xs.length with h0 | h0
    · obtain rfl := List.length_eq_zero_iff.1 h0
      refine (clone_zero hf).mono ?_
      rintro v G ⟨rfl, rfl⟩
      exact ⟨false, _, 0, rfl, rfl, fun _ => rfl⟩
    · obtain ⟨r, wr, rows, rfl, hg, hrow⟩ := h (by intro e; rw [e] at h0; simp at h0)
      have hn : r + xs.length ≤ rows.length := by
        have := congrArg List.length hrow
        rw [List.length_take, List.length_drop] at this
        omega
      have key := clone_arr hf hg hn h0 hb (ex := ex) (cap := cap)
      rw [hrow] at key
      refine key.mono ?_
      rintro v G ⟨rfl, rfl⟩
      exact ⟨true, _, 1, (zV_pos h0).symm, rfl, fun _ => by rw [zB_pos h0]; rfl⟩
theorem insert_z {f : FuncId} {esz bytes : Nat} {zero : List AV} (hf : InsFn P f esz bytes zero) {L : List Blk} {i j n : Nat} {z : Bool} {x : List AV} {xs : List (List AV)} {m : Nat}
    (hij : j ≠ i) (hj : L[j]? = some (.row true esz [x])) (hi : L[i]? = some (zB z esz xs)) (hn : xs.length = n) (hm : m ≤ n) (hl : n < 4294967296) (hb : (2 * (n + 1) + 192) * bytes ≤ 281474976710656) :
    FnOk P f [zV z (H.key i) esz n, .int .i64 m, .slice (H.key j) 0 1 esz true 1] (H.ext L) fun v G => ∃ b, v = outV (H.key L.length) esz (n + 1) ∧ G = H.ext (L.set i b ++ [outB esz (xs.take m ++ x :: xs.drop m)]) := by
  subst hn
  have hil := (List.getElem?_eq_some_iff.1 hi).1
  have hjl := (List.getElem?_eq_some_iff.1 hj).1
  have hgv : (H.ext L).get (H.key j) = some (.row true esz [x]) := by rw [Heap.get_ext_key _ _ _ hjl, hj]
  have hgk : (H.ext L).get (H.key i) = some (zB z esz xs) := by rw [Heap.get_ext_key _ _ _ hil, hi]
  have hset : L.set i (zB z esz xs) = L := by
    refine List.ext_getElem? fun q => ?_
    rw [List.getElem?_set]
    split
    · rename_i hq; subst hq; rw [hi]
    · rfl
  cases xs with
  | nil =>
    obtain rfl : m = 0 := by simpa using hm
    cases z
    · refine (insert_zero hf hgv hgk (by simpa using hb)).mono ?_
      rintro v G ⟨rfl, rfl⟩
      rw [Heap.nx_ext, Heap.ext_append]
      exact ⟨_, rfl, by rw [hset]; rfl⟩
    · refine (insert_nil hf hgv (by simpa using hb)).mono ?_
      rintro v G ⟨rfl, rfl⟩
      rw [Heap.nx_ext, Heap.ext_append]
      exact ⟨_, rfl, by rw [hset]; rfl⟩
  | cons y ys =>
    have hne : H.key j ≠ H.key i := fun h => hij (by
      have := congrArg K.toNat h
      rw [Heap.toNat_key, Heap.toNat_key] at this
      omega)
    refine (insert_own hf hne hgv hgk (by simp) hm hl hb).mono ?_
    rintro v G ⟨rfl, rfl⟩
    rw [Heap.nx_ext, Heap.set_ext_key _ _ _ _ hil, Heap.ext_append]
    refine ⟨.dead, rfl, ?_⟩
    congr 2
    rw [outB_pos (by simp only [List.length_append, List.length_cons, List.length_drop, List.length_take]; omega)]
@[go_sem] theorem bin_half {β : Type} (ek : EK) (pk : Option (List LK)) (lit : Bool) (a : Int) (f : β) (c : AV → β) : binV P ek pk lit .shr (.int .u64 a) (.int .u64 1) f c = c (.int .u64 (a.fdiv 2)) := bin_shr ek pk lit .u64 a f c .u64 1
theorem half_mid {i j : Nat} (h : i + j < 9223372036854775808) : IntKind.i64.wrap ((IntKind.u64.wrap (IntKind.i64.wrap ((i : Int) + (j : Int)))).fdiv 2) = (((i + j) / 2 : Nat) : Int) := by
  rw [wrap_i64 (n := (i : Int) + (j : Int)) (by omega) (by omega)]
  rw [show (i : Int) + (j : Int) = ((i + j : Nat) : Int) by omega, show IntKind.u64.wrap ((i + j : Nat) : Int) = ((i + j : Nat) : Int) from wrap_nat .u64 (i + j) (by show i + j ≤ 18446744073709551615; omega)]
  rw [show Int.fdiv ((i + j : Nat) : Int) 2 = (((i + j) / 2 : Nat) : Int) by rw [Int.fdiv_eq_ediv_of_nonneg _ (by decide)]; omega]
  exact wrap_i64 (by omega) (by omega)
@[go_sem] theorem max_int {β : Type} (k : IntKind) (a b : Int) (f : β) (c : AV → β) : mm2 true (.int k a) (.int k b) f c = c (.int k (max a b)) := by
  show bif' true (ltI a b fun z => bif' z (c (.int k b)) (c (.int k a))) (ltI b a fun z => bif' z (c (.int k b)) (c (.int k a))) = _
  rw [bif_true, ltI_eq, bif_eq]
  by_cases h : a < b
  · rw [decide_eq_true h, if_pos rfl, Int.max_eq_right (by omega)]
  · rw [decide_eq_false h, if_neg (by decide), Int.max_eq_left (by omega)]
theorem arr_row {L : List Blk} {esz i n : Nat} {wr ex : Bool} {cap : Nat} {xs : List (List AV)} (h : L[i]? = some (.row wr esz xs)) (hn : n = xs.length) : Arr (H.ext L) esz (.slice (H.key i) 0 n esz ex cap) xs := by
  subst hn
  have hi := (List.getElem?_eq_some_iff.1 h).1
  refine .inr ⟨H.key i, 0, ex, cap, rfl, ?_, fun _ => ⟨0, wr, xs, by simp, ?_, by simp⟩⟩
  · rw [Heap.nx_ext, Heap.toNat_key, Heap.toNat_key]; omega
  · rw [Heap.get_ext_key _ _ _ hi, h]
theorem arr_outV {L : List Blk} {esz i n : Nat} {xs : List (List AV)} (h : L[i]? = some (outB esz xs)) (hn : xs.length = n) : Arr (H.ext L) esz (outV (H.key i) esz n) xs := by
  subst hn
  rw [← zV_t]
  exact zB_arr (by rw [h, zB_t])
theorem arr_zV {z : Bool} {L : List Blk} {esz i n : Nat} {xs : List (List AV)} (h : L[i]? = some (zB z esz xs)) (hn : xs.length = n) : Arr (H.ext L) esz (zV z (H.key i) esz n) xs := by
  subst hn
  exact zB_arr h
@[go_sem low] theorem readC_first {β : Type} (f : β) (esz : Nat) (rows : List (List AV)) (q n : Nat) (c : List AV → β) (hp : q < esz) (hn : q + n ≤ esz) : readC f esz rows q n c = optC rows[0]? f fun row => bif' (Bool.and (Nat.beq q 0) (Nat.beq n esz)) (c row) (takeC f n (dropL q row) c) := by
  have := readC_at f esz rows 0 q n c hp hn
  rwa [Nat.zero_mul, Nat.zero_add] at this
end Go.Ev
/- token: where a key is, walked. -/



set_option linter.all false
set_option maxRecDepth 100000
namespace Go.Proofs
open Go Go.Ev
variable {H : Heap}

/-- how far one has seen of a key -/
structure Sn where
  key : List Nat
  ver : Int
def Sn.enc (c : Sn) : List AV := [.str c.key, .int .i64 c.ver]
theorem Sn.rens (ρ : K → K) (c : Sn) : AV.rens ρ c.enc = c.enc := by simp only [Sn.enc, AV.rens, AV.ren]
theorem Sn.map_rens (ρ : K → K) (l : List Sn) : (l.map Sn.enc).map (AV.rens ρ) = l.map Sn.enc := by
  rw [List.map_map]; exact List.map_congr_left fun c _ => Sn.rens ρ c
theorem f82_ok (k : List Nat) : FnOk Try.prog 82 [.str k] H fun v G => v = .bool false ∧ G = H := by
  refine FnOk.of_WW Try.func82 rfl C82ok R82ok E0 good_E0 ?_
  simp only [go_sem, C82, Nat.reduceAdd, Nat.reduceSub, Nat.reduceMul, Nat.reduceDiv, Nat.reduceMod, Nat.reduceEqDiff, Nat.reduceLeDiff, Nat.reduceLT, Int.reduceLT, Int.reduceLE, Int.reduceEq, Int.reduceToNat, reduceIte, reduceCtorEq, eq_self, true_implies, not_true_eq_false, not_false_eq_true, false_implies, and_true, true_and, decide_true, decide_false, Bool.not_true, Bool.not_false, Heap.ext_nil]
noncomputable def cmpS (a b : List Nat) : Int := if ltS a b then -1 else if ltS b a then 1 else 0
theorem f75_ok (a b : List Nat) : FnOk Try.prog 75 [.str a, .str b] H fun v G => v = .int .i64 (cmpS a b) ∧ G = H := by
  refine FnOk.of_WW Try.func75 rfl C75ok R75ok E0 good_E0 ?_
  simp only [go_sem, C75, Nat.reduceAdd, Nat.reduceSub, Nat.reduceMul, Nat.reduceDiv, Nat.reduceMod, Nat.reduceEqDiff, Nat.reduceLeDiff, Nat.reduceLT, Int.reduceLT, Int.reduceLE, Int.reduceEq, Int.reduceToNat, reduceIte, reduceCtorEq, eq_self, true_implies, not_true_eq_false, not_false_eq_true, false_implies, and_true, true_and, decide_true, decide_false, Bool.not_true, Bool.not_false]
  refine CL.one (f82_ok a) ?_
  simp only [go_sem, Nat.reduceAdd, Nat.reduceSub, Nat.reduceMul, Nat.reduceDiv, Nat.reduceMod, Nat.reduceEqDiff, Nat.reduceLeDiff, Nat.reduceLT, Int.reduceLT, Int.reduceLE, Int.reduceEq, Int.reduceToNat, reduceIte, reduceCtorEq, eq_self, true_implies, not_true_eq_false, not_false_eq_true, false_implies, and_true, true_and, decide_true, decide_false, Bool.not_true, Bool.not_false]
  refine CL.one (f82_ok b) ?_
  simp only [go_sem, Nat.reduceAdd, Nat.reduceSub, Nat.reduceMul, Nat.reduceDiv, Nat.reduceMod, Nat.reduceEqDiff, Nat.reduceLeDiff, Nat.reduceLT, Int.reduceLT, Int.reduceLE, Int.reduceEq, Int.reduceToNat, reduceIte, reduceCtorEq, eq_self, true_implies, not_true_eq_false, not_false_eq_true, false_implies, and_true, true_and, decide_true, decide_false, Bool.not_true, Bool.not_false]
  unfold cmpS
  refine ⟨fun h => ⟨by rw [if_pos h], Heap.ext_nil H⟩, fun h => ⟨fun g => ⟨?_, Heap.ext_nil H⟩, fun g => ⟨?_, Heap.ext_nil H⟩⟩⟩
  · rw [if_neg h, if_pos (not_leS.1 g)]
  · rw [if_neg h, if_neg (fun e => g (not_leS.2 e))]
theorem f74_ok (c : Sn) (k : List Nat) : FnOk Try.prog 74 [.agg c.enc, .str k] H fun v G => v = .int .i64 (cmpS c.key k) ∧ G = H := by
  refine FnOk.drop (R := fun v => v = .int .i64 (cmpS c.key k)) ?_ (by rintro v rfl ρ; rw [AV.ren])
  refine FnOk.of_WW Try.func74 rfl C74ok R74ok E0 good_E0 ?_
  simp only [go_sem, C74, Sn.enc, Nat.reduceAdd, Nat.reduceSub, Nat.reduceMul, Nat.reduceDiv, Nat.reduceMod, Nat.reduceEqDiff, Nat.reduceLeDiff, Nat.reduceLT, Int.reduceLT, Int.reduceLE, Int.reduceEq, Int.reduceToNat, reduceIte, reduceCtorEq, List.length_nil, List.map_nil, List.length_cons, List.map_cons, List.replicate_succ, List.replicate_zero, List.set_cons_zero, List.set_cons_succ, List.take_succ_cons, List.take_zero, List.take_nil, List.length_append, List.map_append, List.cons_append, List.nil_append, List.drop_succ_cons, List.drop_zero, List.append_nil, List.getElem?_cons_zero, List.getElem?_cons_succ, eq_self, true_implies, not_true_eq_false, not_false_eq_true, false_implies, and_true, true_and, decide_true, decide_false, Bool.not_true, Bool.not_false]
  refine CL.one (f75_ok _ _) ?_
  simp only [go_sem, Nat.reduceAdd, Nat.reduceSub, Nat.reduceMul, Nat.reduceDiv, Nat.reduceMod, Nat.reduceEqDiff, Nat.reduceLeDiff, Nat.reduceLT, Int.reduceLT, Int.reduceLE, Int.reduceEq, Int.reduceToNat, reduceIte, reduceCtorEq, eq_self, true_implies, not_true_eq_false, not_false_eq_true, false_implies, and_true, true_and, decide_true, decide_false, Bool.not_true, Bool.not_false]
  exact ⟨_, rfl⟩
def hasAt (l : List Sn) (k : List Nat) (i : Nat) : Prop := ∃ c, l[i]? = some c ∧ c.key = k
noncomputable instance (l : List Sn) (k : List Nat) (i : Nat) : Decidable (hasAt l k i) := Classical.propDecidable _
/-- all ahead of it are less, none behind is -/
def lowAt (l : List Sn) (k : List Nat) (i : Nat) : Prop := i ≤ l.length ∧ (∀ q c, q < i → l[q]? = some c → ltS c.key k) ∧ ∀ q c, i ≤ q → l[q]? = some c → ¬ ltS c.key k
def rises (l : List Sn) : Prop := ∀ (p q : Nat) (c d : Sn), p < q → l[p]? = some c → l[q]? = some d → ltS c.key d.key
theorem f73_ok {v : AV} {l : List Sn} (hA : Arr H 2 v (l.map Sn.enc)) (hr : rises l) (hl : l.length < 4294967296) (k : List Nat) :
    FnOk Try.prog 73 [v, .str k, .fn (.func 74) [] []] H fun r G => (∃ i : Nat, lowAt l k i ∧ r = .tup [.int .i64 i, .bool (decide (hasAt l k i))]) ∧ G = H := by
  refine FnOk.assume fun hok => ?_
  refine FnOk.drop (R := fun r => ∃ i : Nat, lowAt l k i ∧ r = .tup [.int .i64 i, .bool (decide (hasAt l k i))]) ?_ (by rintro v ⟨i, _, rfl⟩ ρ; simp only [AV.ren, AV.rens])
  refine FnOk.of_WW Try.func73 rfl C73ok R73ok E0 good_E0 ?_
  have hlen := fun G => hA.len G
  simp only [List.length_map] at hlen
  have hren := hA.ren
  simp only [go_sem, C73, Nat.reduceAdd, Nat.reduceSub, Nat.reduceMul, Nat.reduceDiv, Nat.reduceMod, Nat.reduceEqDiff, Nat.reduceLeDiff, Nat.reduceLT, Int.reduceLT, Int.reduceLE, Int.reduceEq, Int.reduceToNat, reduceIte, reduceCtorEq, hlen]
  refine LL.st good_E0 (fun p : Nat × Nat => p.2 - p.1) (fun p => p.1 ≤ p.2 ∧ p.2 ≤ l.length ∧ (∀ q c, q < p.1 → l[q]? = some c → ltS c.key k) ∧ ∀ q c, p.2 ≤ q → l[q]? = some c → ¬ ltS c.key k)
    (fun p => [(.z, v), ((.o .z), .str k), ((.i .z), .fn (.func 74) [] []), ((.i (.o (.o .z))), .int .i64 l.length), ((.o (.i (.o .z))), .int .i64 p.1), ((.i (.i (.o .z))), .int .i64 p.2)])
    (fun p => []) ?_ (0, l.length) (σ := []) (Wk.of rfl (by decide) (by simp only [go_sem, hren, List.length_nil, List.map_nil, List.length_cons, List.map_cons, List.replicate_succ, List.replicate_zero, List.set_cons_zero, List.set_cons_succ, List.take_succ_cons, List.take_zero, List.take_nil, List.length_append, List.map_append, List.cons_append, List.nil_append, List.drop_succ_cons, List.drop_zero, List.append_nil, List.getElem?_cons_zero, List.getElem?_cons_succ, Nat.reduceAdd, Nat.reduceSub, Nat.reduceMul, Nat.reduceDiv, Nat.reduceMod, Nat.reduceEqDiff, Nat.reduceLeDiff, Nat.reduceLT, Int.reduceLT, Int.reduceLE, Int.reduceEq, Int.reduceToNat, reduceIte, reduceCtorEq]) (by simp only [go_sem, List.length_nil, List.map_nil, List.length_cons, List.map_cons, List.replicate_succ, List.replicate_zero, List.set_cons_zero, List.set_cons_succ, List.take_succ_cons, List.take_zero, List.take_nil, List.length_append, List.map_append, List.cons_append, List.nil_append, List.drop_succ_cons, List.drop_zero, List.append_nil, List.getElem?_cons_zero, List.getElem?_cons_succ, Nat.reduceAdd, Nat.reduceSub, Nat.reduceMul, Nat.reduceDiv, Nat.reduceMod, Nat.reduceEqDiff, Nat.reduceLeDiff, Nat.reduceLT, Int.reduceLT, Int.reduceLE, Int.reduceEq, Int.reduceToNat, reduceIte, reduceCtorEq, eq_self, true_implies, not_true_eq_false, not_false_eq_true, false_implies, and_true, true_and, decide_true, decide_false, Bool.not_true, Bool.not_false])) ⟨Nat.zero_le _, Nat.le_refl _, fun q c h => absurd h (Nat.not_lt_zero _), fun q c h g => absurd (List.getElem?_eq_some_iff.1 g).1 (Nat.not_lt.2 h)⟩
  rintro ⟨i, j⟩ ⟨hij, hjl, h1, h2⟩
  simp only at hij hjl h1 h2
  by_cases hlt : i < j
  · have hc : (i : Int) < (j : Int) := by omega
    have hml : (i + j) / 2 < l.length := by omega
    obtain ⟨kk, r, ex', cap', wr, rows, hv, hrho, hgo, hrow⟩ := hA.at hok (j := (i + j) / 2) (by rw [List.length_map]; exact hml)
    simp only [List.length_map, List.getElem_map] at hv hrow
    cases hv
    have hgm : l[(i + j) / 2]? = some l[(i + j) / 2] := List.getElem?_eq_getElem hml
    generalize l[(i + j) / 2] = d at hrow hgm
    have hmid := half_mid (i := i) (j := j) (by omega)
    have hsi : (i + j) / 2 + 1 ≤ l.length := by omega
    have hlo : i ≤ (i + j) / 2 := by omega
    have hhi : (i + j) / 2 < j := by omega
    generalize (i + j) / 2 = m at *
    have hw := wrap_succ (n := m) (by omega)
    simp only [go_sem, C73L0, Nat.reduceAdd, Nat.reduceSub, Nat.reduceMul, Nat.reduceDiv, Nat.reduceMod, Nat.reduceEqDiff, Nat.reduceLeDiff, Nat.reduceLT, Int.reduceLT, Int.reduceLE, Int.reduceEq, Int.reduceToNat, reduceIte, reduceCtorEq, List.length_nil, List.map_nil, List.length_cons, List.map_cons, List.replicate_succ, List.replicate_zero, List.set_cons_zero, List.set_cons_succ, List.take_succ_cons, List.take_zero, List.take_nil, List.length_append, List.map_append, List.cons_append, List.nil_append, List.drop_succ_cons, List.drop_zero, List.append_nil, List.getElem?_cons_zero, List.getElem?_cons_succ, eq_self, true_implies, not_true_eq_false, not_false_eq_true, false_implies, and_true, true_and, decide_true, decide_false, Bool.not_true, Bool.not_false, hc, hmid, hgo, hrow, hsi, Sn.enc]
    refine CL.one (f74_ok d k) ?_
    simp only [go_sem, Nat.reduceAdd, Nat.reduceSub, Nat.reduceMul, Nat.reduceDiv, Nat.reduceMod, Nat.reduceEqDiff, Nat.reduceLeDiff, Nat.reduceLT, Int.reduceLT, Int.reduceLE, Int.reduceEq, Int.reduceToNat, reduceIte, reduceCtorEq, List.length_nil, List.map_nil, List.length_cons, List.map_cons, List.replicate_succ, List.replicate_zero, List.set_cons_zero, List.set_cons_succ, List.take_succ_cons, List.take_zero, List.take_nil, List.length_append, List.map_append, List.cons_append, List.nil_append, List.drop_succ_cons, List.drop_zero, List.append_nil, List.getElem?_cons_zero, List.getElem?_cons_succ, eq_self, true_implies, not_true_eq_false, not_false_eq_true, false_implies, and_true, true_and, decide_true, decide_false, Bool.not_true, Bool.not_false, hw]
    refine ⟨fun g => ?_, fun g => ?_⟩
    · refine ⟨(m + 1, j), by show j - (m + 1) < j - i; omega, ⟨by omega, hjl, fun q c hq hc' => ?_, h2⟩, _, [], rfl, Wk.of rfl (by decide) (by simp only [go_sem, hren, hrho, List.length_nil, List.map_nil, List.length_cons, List.map_cons, List.replicate_succ, List.replicate_zero, List.set_cons_zero, List.set_cons_succ, List.take_succ_cons, List.take_zero, List.take_nil, List.length_append, List.map_append, List.cons_append, List.nil_append, List.drop_succ_cons, List.drop_zero, List.append_nil, List.getElem?_cons_zero, List.getElem?_cons_succ, Nat.reduceAdd, Nat.reduceSub, Nat.reduceMul, Nat.reduceDiv, Nat.reduceMod, Nat.reduceEqDiff, Nat.reduceLeDiff, Nat.reduceLT, Int.reduceLT, Int.reduceLE, Int.reduceEq, Int.reduceToNat, reduceIte, reduceCtorEq]) (by simp only [go_sem, List.length_nil, List.map_nil, List.length_cons, List.map_cons, List.replicate_succ, List.replicate_zero, List.set_cons_zero, List.set_cons_succ, List.take_succ_cons, List.take_zero, List.take_nil, List.length_append, List.map_append, List.cons_append, List.nil_append, List.drop_succ_cons, List.drop_zero, List.append_nil, List.getElem?_cons_zero, List.getElem?_cons_succ, Nat.reduceAdd, Nat.reduceSub, Nat.reduceMul, Nat.reduceDiv, Nat.reduceMod, Nat.reduceEqDiff, Nat.reduceLeDiff, Nat.reduceLT, Int.reduceLT, Int.reduceLE, Int.reduceEq, Int.reduceToNat, reduceIte, reduceCtorEq, eq_self, true_implies, not_true_eq_false, not_false_eq_true, false_implies, and_true, true_and, decide_true, decide_false, Bool.not_true, Bool.not_false])⟩
      have hlt' : ltS d.key k := by
        unfold cmpS at g
        by_cases e : ltS d.key k
        · exact e
        · rw [if_neg e] at g; split at g <;> omega
      rcases Nat.lt_or_ge q m with h | h
      · exact ltS_trans (hr q m c d h hc' hgm) hlt'
      · obtain rfl : q = m := by omega
        rw [hgm] at hc'; cases hc'; exact hlt'
    · refine ⟨(i, m), by show m - i < j - i; omega, ⟨hlo, by omega, h1, fun q c hq hc' => ?_⟩, _, [], rfl, Wk.of rfl (by decide) (by simp only [go_sem, hren, hrho, List.length_nil, List.map_nil, List.length_cons, List.map_cons, List.replicate_succ, List.replicate_zero, List.set_cons_zero, List.set_cons_succ, List.take_succ_cons, List.take_zero, List.take_nil, List.length_append, List.map_append, List.cons_append, List.nil_append, List.drop_succ_cons, List.drop_zero, List.append_nil, List.getElem?_cons_zero, List.getElem?_cons_succ, Nat.reduceAdd, Nat.reduceSub, Nat.reduceMul, Nat.reduceDiv, Nat.reduceMod, Nat.reduceEqDiff, Nat.reduceLeDiff, Nat.reduceLT, Int.reduceLT, Int.reduceLE, Int.reduceEq, Int.reduceToNat, reduceIte, reduceCtorEq]) (by simp only [go_sem, List.length_nil, List.map_nil, List.length_cons, List.map_cons, List.replicate_succ, List.replicate_zero, List.set_cons_zero, List.set_cons_succ, List.take_succ_cons, List.take_zero, List.take_nil, List.length_append, List.map_append, List.cons_append, List.nil_append, List.drop_succ_cons, List.drop_zero, List.append_nil, List.getElem?_cons_zero, List.getElem?_cons_succ, Nat.reduceAdd, Nat.reduceSub, Nat.reduceMul, Nat.reduceDiv, Nat.reduceMod, Nat.reduceEqDiff, Nat.reduceLeDiff, Nat.reduceLT, Int.reduceLT, Int.reduceLE, Int.reduceEq, Int.reduceToNat, reduceIte, reduceCtorEq, eq_self, true_implies, not_true_eq_false, not_false_eq_true, false_implies, and_true, true_and, decide_true, decide_false, Bool.not_true, Bool.not_false])⟩
      have hge : ¬ ltS d.key k := fun e => g (by unfold cmpS; rw [if_pos e]; decide)
      rcases Nat.lt_or_ge m q with h | h
      · exact fun e => hge (ltS_trans (hr m q d c h hgm hc') e)
      · obtain rfl : q = m := by omega
        rw [hgm] at hc'; cases hc'; exact hge
  · obtain rfl : i = j := by omega
    have hc : ¬ (i : Int) < (i : Int) := by omega
    have hlow : lowAt l k i := ⟨hjl, h1, h2⟩
    rcases Nat.lt_or_ge i l.length with hil | hil
    · obtain ⟨kk, r, ex', cap', wr, rows, hv, hrho, hgo, hrow⟩ := hA.at hok (j := i) (by rw [List.length_map]; exact hil)
      simp only [List.length_map, List.getElem_map] at hv hrow
      cases hv
      have hgm : l[i]? = some l[i] := List.getElem?_eq_getElem hil
      generalize l[i] = d at hrow hgm
      have hci : (i : Int) < (l.length : Int) := by omega
      have hsi : i + 1 ≤ l.length := by omega
      simp only [go_sem, C73L0, Nat.reduceAdd, Nat.reduceSub, Nat.reduceMul, Nat.reduceDiv, Nat.reduceMod, Nat.reduceEqDiff, Nat.reduceLeDiff, Nat.reduceLT, Int.reduceLT, Int.reduceLE, Int.reduceEq, Int.reduceToNat, reduceIte, reduceCtorEq, List.length_nil, List.map_nil, List.length_cons, List.map_cons, List.replicate_succ, List.replicate_zero, List.set_cons_zero, List.set_cons_succ, List.take_succ_cons, List.take_zero, List.take_nil, List.length_append, List.map_append, List.cons_append, List.nil_append, List.drop_succ_cons, List.drop_zero, List.append_nil, List.getElem?_cons_zero, List.getElem?_cons_succ, eq_self, true_implies, not_true_eq_false, not_false_eq_true, false_implies, and_true, true_and, decide_true, decide_false, Bool.not_true, Bool.not_false, hc, hgo, hrow, hsi, hci, Sn.enc]
      refine CL.one (f74_ok d k) ?_
      simp only [go_sem, Nat.reduceAdd, Nat.reduceSub, Nat.reduceMul, Nat.reduceDiv, Nat.reduceMod, Nat.reduceEqDiff, Nat.reduceLeDiff, Nat.reduceLT, Int.reduceLT, Int.reduceLE, Int.reduceEq, Int.reduceToNat, reduceIte, reduceCtorEq, List.length_nil, List.map_nil, List.length_cons, List.map_cons, List.replicate_succ, List.replicate_zero, List.set_cons_zero, List.set_cons_succ, List.take_succ_cons, List.take_zero, List.take_nil, List.length_append, List.map_append, List.cons_append, List.nil_append, List.drop_succ_cons, List.drop_zero, List.append_nil, List.getElem?_cons_zero, List.getElem?_cons_succ, eq_self, true_implies, not_true_eq_false, not_false_eq_true, false_implies, and_true, true_and, decide_true, decide_false, Bool.not_true, Bool.not_false]
      have hat : cmpS d.key k = 0 ↔ hasAt l k i := by
        unfold cmpS hasAt
        constructor
        · intro h
          refine ⟨d, hgm, ?_⟩
          rcases ltS_tri d.key k with e | e | e
          · rw [if_pos e] at h; cases h
          · exact e
          · rw [if_neg (ltS_asymm e), if_pos e] at h; cases h
        · rintro ⟨c, hc', e⟩
          rw [hgm] at hc'; cases hc'
          rw [e, if_neg (ltS_irrefl _), if_neg (ltS_irrefl _)]
      refine ⟨fun h => ⟨⟨i, hlow, ?_⟩, _, rfl⟩, fun h => ⟨⟨i, hlow, ?_⟩, _, rfl⟩⟩
      · rw [decide_eq_true (hat.1 h)]
      · rw [decide_eq_false (fun e => h (hat.2 e))]
    · have hci : ¬ (i : Int) < (l.length : Int) := by omega
      simp only [go_sem, C73L0, Nat.reduceAdd, Nat.reduceSub, Nat.reduceMul, Nat.reduceDiv, Nat.reduceMod, Nat.reduceEqDiff, Nat.reduceLeDiff, Nat.reduceLT, Int.reduceLT, Int.reduceLE, Int.reduceEq, Int.reduceToNat, reduceIte, reduceCtorEq, List.length_nil, List.map_nil, List.length_cons, List.map_cons, List.replicate_succ, List.replicate_zero, List.set_cons_zero, List.set_cons_succ, List.take_succ_cons, List.take_zero, List.take_nil, List.length_append, List.map_append, List.cons_append, List.nil_append, List.drop_succ_cons, List.drop_zero, List.append_nil, List.getElem?_cons_zero, List.getElem?_cons_succ, eq_self, true_implies, not_true_eq_false, not_false_eq_true, false_implies, and_true, true_and, decide_true, decide_false, Bool.not_true, Bool.not_false, hc, hci]
      refine ⟨⟨i, hlow, ?_⟩, _, rfl⟩
      rw [decide_eq_false (fun ⟨c, hc', _⟩ => by have := (List.getElem?_eq_some_iff.1 hc').1; omega)]
theorem f61_ok {v : AV} {l : List Sn} (hA : Arr H 2 v (l.map Sn.enc)) (hr : rises l) (hl : l.length < 4294967296) (k : List Nat) :
    FnOk Try.prog 61 [v, .str k] H fun r G => (∃ i : Nat, lowAt l k i ∧ r = .tup [.int .i64 i, .bool (decide (hasAt l k i))]) ∧ G = H := by
  refine FnOk.drop (R := fun r => ∃ i : Nat, lowAt l k i ∧ r = .tup [.int .i64 i, .bool (decide (hasAt l k i))]) ?_ (by rintro v ⟨i, _, rfl⟩ ρ; simp only [AV.ren, AV.rens])
  refine FnOk.of_WW Try.func61 rfl C61ok R61ok E0 good_E0 ?_
  simp only [go_sem, C61, Nat.reduceAdd, Nat.reduceSub, Nat.reduceMul, Nat.reduceDiv, Nat.reduceMod, Nat.reduceEqDiff, Nat.reduceLeDiff, Nat.reduceLT, Int.reduceLT, Int.reduceLE, Int.reduceEq, Int.reduceToNat, reduceIte, reduceCtorEq, eq_self, true_implies, not_true_eq_false, not_false_eq_true, false_implies, and_true, true_and, decide_true, decide_false, Bool.not_true, Bool.not_false]
  refine CL.of (f73_ok (hA.ext []) hr hl k) ?_
  rintro _ _ ⟨⟨i, hi, rfl⟩, rfl⟩
  simp only [go_sem, Nat.reduceAdd, Nat.reduceSub, Nat.reduceMul, Nat.reduceDiv, Nat.reduceMod, Nat.reduceEqDiff, Nat.reduceLeDiff, Nat.reduceLT, Int.reduceLT, Int.reduceLE, Int.reduceEq, Int.reduceToNat, reduceIte, reduceCtorEq, List.length_nil, List.map_nil, List.length_cons, List.map_cons, List.replicate_succ, List.replicate_zero, List.set_cons_zero, List.set_cons_succ, List.take_succ_cons, List.take_zero, List.take_nil, List.length_append, List.map_append, List.cons_append, List.nil_append, List.drop_succ_cons, List.drop_zero, List.append_nil, List.getElem?_cons_zero, List.getElem?_cons_succ, eq_self, true_implies, not_true_eq_false, not_false_eq_true, false_implies, and_true, true_and, decide_true, decide_false, Bool.not_true, Bool.not_false]
  exact ⟨fun h => ⟨⟨i, hi, by rw [decide_eq_true h]⟩, [], rfl⟩, fun h => ⟨⟨i, hi, by rw [decide_eq_false h]⟩, [], rfl⟩⟩
end Go.Proofs
/- token: what has been seen, the plain law. -/

set_option linter.all false
set_option maxRecDepth 100000
namespace Go.Proofs
open Go Go.Ev
def okS (c : Sn) : Prop := isKey c.key ∧ 0 ≤ c.ver ∧ c.ver ≤ 1000000000000
def okT (l : List Sn) (j : Nat) : Prop := ∃ c, l[j]? = some c ∧ okS c ∧ (0 < j → ∃ d, l[j - 1]? = some d ∧ ltS d.key c.key)
def isTok (l : List Sn) : Prop := ∀ j, j < l.length → okT l j
noncomputable instance (l : List Sn) : Decidable (isTok l) := Classical.propDecidable _
abbrev up (l : List Sn) : Prop := l.Pairwise fun c d => ltS c.key d.key
theorem up_cons {c : Sn} {l : List Sn} : up (c :: l) ↔ (∀ d ∈ l, ltS c.key d.key) ∧ up l := List.pairwise_cons
theorem isTok_cons {c : Sn} {l : List Sn} : isTok (c :: l) ↔ okS c ∧ (∀ d, l[0]? = some d → ltS c.key d.key) ∧ isTok l := by
  constructor
  · intro h
    obtain ⟨c', h0, h1, _⟩ := h 0 (by simp)
    cases h0
    refine ⟨h1, fun d hd => ?_, fun j hj => ?_⟩
    · obtain ⟨e, g0, _, g2⟩ := h 1 (by have := (List.getElem?_eq_some_iff.1 hd).1; simp; omega)
      obtain ⟨c', g3, g4⟩ := g2 (by decide)
      rw [List.getElem?_cons_succ, hd] at g0; cases g0
      cases g3; exact g4
    · obtain ⟨e, g0, g1, g2⟩ := h (j + 1) (by simp; omega)
      rw [List.getElem?_cons_succ] at g0
      refine ⟨e, g0, g1, fun h0 => ?_⟩
      obtain ⟨c', g3, g4⟩ := g2 (by omega)
      rw [show j + 1 - 1 = (j - 1) + 1 by omega, List.getElem?_cons_succ] at g3
      exact ⟨c', g3, g4⟩
  · rintro ⟨h1, h2, h3⟩ j hj
    cases j with
    | zero => exact ⟨c, rfl, h1, fun h => absurd h (by decide)⟩
    | succ j =>
      obtain ⟨e, g0, g1, g2⟩ := h3 j (by simp at hj; omega)
      refine ⟨e, by rw [List.getElem?_cons_succ]; exact g0, g1, fun _ => ?_⟩
      cases j with
      | zero => exact ⟨c, rfl, h2 e g0⟩
      | succ j => obtain ⟨d, g3, g4⟩ := g2 (by omega); exact ⟨d, by simpa using g3, g4⟩
theorem tok_iff : ∀ {l : List Sn}, isTok l ↔ (∀ c ∈ l, okS c) ∧ up l
  | [] => ⟨fun _ => ⟨by simp, .nil⟩, fun _ j hj => by simp at hj⟩
  | c :: l => by
    rw [isTok_cons, tok_iff (l := l), up_cons]
    constructor
    · rintro ⟨h1, h2, h3, h4⟩
      refine ⟨by simpa using ⟨h1, h3⟩, fun d hd => ?_, h4⟩
      cases l with
      | nil => simp at hd
      | cons e l =>
        have he := h2 e rfl
        rcases List.mem_cons.1 hd with rfl | hd
        · exact he
        · exact ltS_trans he ((up_cons.1 h4).1 d hd)
    · rintro ⟨h1, h2, h4⟩
      exact ⟨h1 c (by simp), fun d hd => h2 d (List.mem_of_getElem? hd), fun d hd => h1 d (by simp [hd]), h4⟩
theorem up_rises {l : List Sn} (h : up l) : rises l := by
  intro p q c d hpq hc hd
  obtain ⟨hp, rfl⟩ := List.getElem?_eq_some_iff.1 hc
  obtain ⟨hq, rfl⟩ := List.getElem?_eq_some_iff.1 hd
  exact List.pairwise_iff_getElem.1 h p q hp hq hpq
theorem isTok.up {l : List Sn} (h : isTok l) : up l := (tok_iff.1 h).2
/-- one put in its place, f where its key is there -/
noncomputable def putG (f : Sn → Sn → Sn) : List Sn → Sn → List Sn
  | [], x => [x]
  | d :: l, x => if ltS d.key x.key then d :: putG f l x else if d.key = x.key then f d x :: l else x :: d :: l
theorem lowAt_tail {d : Sn} {l : List Sn} {k : List Nat} {i : Nat} (h : lowAt (d :: l) k (i + 1)) : ltS d.key k ∧ lowAt l k i :=
  ⟨h.2.1 0 d (by omega) rfl, by have := h.1; simp at this; omega, fun q c hq hc => h.2.1 (q + 1) c (by omega) (by simpa using hc), fun q c hq hc => h.2.2 (q + 1) c (by omega) (by simpa using hc)⟩
theorem putG_has {f : Sn → Sn → Sn} {x : Sn} : ∀ {l : List Sn} {i : Nat} {d : Sn}, lowAt l x.key i → l[i]? = some d → d.key = x.key → putG f l x = l.set i (f d x)
  | [], i, d, _, h, _ => by simp at h
  | e :: l, 0, d, h, hd, hk => by
    cases hd
    rw [putG, if_neg (by rw [hk]; exact ltS_irrefl _), if_pos hk]; rfl
  | e :: l, i + 1, d, h, hd, hk => by
    obtain ⟨h1, h2⟩ := lowAt_tail h
    rw [putG, if_pos h1, putG_has h2 (by simpa using hd) hk]; rfl
theorem putG_not {f : Sn → Sn → Sn} {x : Sn} : ∀ {l : List Sn} {i : Nat}, lowAt l x.key i → ¬ hasAt l x.key i → putG f l x = l.take i ++ x :: l.drop i
  | [], i, h, _ => by
    obtain rfl : i = 0 := by have := h.1; simp at this; exact this
    rfl
  | e :: l, 0, h, hk => by
    have h1 : ¬ ltS e.key x.key := h.2.2 0 e (Nat.le_refl _) rfl
    rw [putG, if_neg h1, if_neg (fun g => hk ⟨e, rfl, g⟩)]; rfl
  | e :: l, i + 1, h, hk => by
    obtain ⟨h1, h2⟩ := lowAt_tail h
    rw [putG, if_pos h1, putG_not h2 (fun ⟨c, hc, g⟩ => hk ⟨c, by simpa using hc, g⟩)]; rfl
theorem mem_putG {f : Sn → Sn → Sn} {x c : Sn} : ∀ {l : List Sn}, c ∈ putG f l x → c = x ∨ c ∈ l ∨ ∃ d ∈ l, d.key = x.key ∧ c = f d x
  | [], h => by simp [putG] at h; exact .inl h
  | d :: l, h => by
    unfold putG at h
    split at h
    · rcases List.mem_cons.1 h with rfl | h
      · exact .inr (.inl (by simp))
      · rcases mem_putG h with h | h | ⟨e, h1, h2⟩
        · exact .inl h
        · exact .inr (.inl (by simp [h]))
        · exact .inr (.inr ⟨e, by simp [h1], h2⟩)
    · split at h
      · rename_i hk
        rcases List.mem_cons.1 h with rfl | h
        · exact .inr (.inr ⟨d, by simp, hk, rfl⟩)
        · exact .inr (.inl (by simp [h]))
      · rcases List.mem_cons.1 h with rfl | h
        · exact .inl rfl
        · exact .inr (.inl h)
theorem putG_up {f : Sn → Sn → Sn} (hf : ∀ d x, d.key = x.key → (f d x).key = x.key) {x : Sn} : ∀ {l : List Sn}, up l → up (putG f l x)
  | [], _ => List.pairwise_singleton _ _
  | d :: l, h => by
    obtain ⟨h1, h2⟩ := up_cons.1 h
    unfold putG
    split
    · rename_i hd
      refine up_cons.2 ⟨fun c hc => ?_, putG_up hf h2⟩
      rcases mem_putG hc with rfl | hc | ⟨e, he, hk, rfl⟩
      · exact hd
      · exact h1 c hc
      · rw [hf e x hk, ← hk]; exact h1 e he
    · rename_i hd
      split
      · rename_i hk
        exact up_cons.2 ⟨fun c hc => by rw [hf d x hk, ← hk]; exact h1 c hc, h2⟩
      · rename_i hk
        have hx : ltS x.key d.key := by
          rcases ltS_tri d.key x.key with e | e | e
          · exact absurd e hd
          · exact absurd e hk
          · exact e
        refine up_cons.2 ⟨fun c hc => ?_, h⟩
        rcases List.mem_cons.1 hc with rfl | hc
        · exact hx
        · exact ltS_trans hx (h1 c hc)
theorem putG_len {f : Sn → Sn → Sn} {x : Sn} : ∀ {l : List Sn}, (putG f l x).length ≤ l.length + 1
  | [] => by simp [putG]
  | d :: l => by
    unfold putG
    split
    · have := putG_len (f := f) (x := x) (l := l)
      simp only [List.length_cons]; omega
    · split <;> simp
theorem putG_pos {f : Sn → Sn → Sn} {x : Sn} {l : List Sn} : 0 < (putG f l x).length := by
  cases l with
  | nil => simp [putG]
  | cons d l => unfold putG; split <;> (try split) <;> simp
/-- what is there of a key -/
noncomputable def getS : List Sn → List Nat → Option Sn
  | [], _ => none
  | c :: l, k => if c.key = k then some c else getS l k
theorem getS_key : ∀ {l : List Sn} {k : List Nat} {c : Sn}, getS l k = some c → c.key = k ∧ c ∈ l
  | [], _, _, h => by cases h
  | d :: l, k, c, h => by
    unfold getS at h
    split at h
    · cases h; rename_i hk; exact ⟨hk, by simp⟩
    · obtain ⟨h1, h2⟩ := getS_key h; exact ⟨h1, by simp [h2]⟩
theorem getS_none : ∀ {l : List Sn} {k : List Nat}, (∀ c ∈ l, ¬ c.key = k) → getS l k = none
  | [], _, _ => rfl
  | d :: l, k, h => by rw [getS, if_neg (h d (by simp)), getS_none fun c hc => h c (by simp [hc])]
theorem getS_mem : ∀ {l : List Sn} {c : Sn}, up l → c ∈ l → getS l c.key = some c
  | d :: l, c, h, hc => by
    obtain ⟨h1, h2⟩ := up_cons.1 h
    rcases List.mem_cons.1 hc with rfl | hc
    · rw [getS, if_pos rfl]
    · rw [getS, if_neg (fun e => by have := h1 c hc; rw [e] at this; exact ltS_irrefl _ this), getS_mem h2 hc]
theorem getS_put {f : Sn → Sn → Sn} (hf : ∀ d x, d.key = x.key → (f d x).key = x.key) {x : Sn} : ∀ {l : List Sn} (_ : up l) (k : List Nat), getS (putG f l x) k = if x.key = k then some (match getS l k with | none => x | some d => f d x) else getS l k
  | [], _, k => by simp only [putG, getS]
  | d :: l, h, k => by
    obtain ⟨h1, h2⟩ := up_cons.1 h
    unfold putG
    split
    · rename_i hd
      rw [getS, getS_put hf h2 k, getS]
      by_cases hk : d.key = k
      · rw [if_pos hk, if_pos hk, if_neg (fun e => by rw [hk, e] at hd; exact ltS_irrefl _ hd)]
      · rw [if_neg hk, if_neg hk]
    · rename_i hd
      split
      · rename_i hk
        simp only [getS, hf d x hk]
        by_cases e : x.key = k
        · simp only [if_pos e, if_pos (hk.trans e)]
        · simp only [if_neg e, if_neg (fun g => e (hk.symm.trans g))]
      · rename_i hk
        have hx : ltS x.key d.key := by
          rcases ltS_tri d.key x.key with e | e | e
          · exact absurd e hd
          · exact absurd e hk
          · exact e
        by_cases e : x.key = k
        · subst e
          rw [getS, if_pos rfl, if_pos rfl, getS_none]
          intro c hc g
          rcases List.mem_cons.1 hc with rfl | hc
          · rw [g] at hx; exact ltS_irrefl _ hx
          · have := ltS_trans hx (h1 c hc); rw [g] at this; exact ltS_irrefl _ this
        · rw [getS, if_neg e, if_neg e]
theorem up_ext : ∀ {l m : List Sn}, up l → up m → (∀ k, getS l k = getS m k) → l = m
  | [], [], _, _, _ => rfl
  | [], d :: m, _, _, h => by have := h d.key; rw [getS, getS, if_pos rfl] at this; cases this
  | c :: l, [], _, _, h => by have := h c.key; rw [getS, getS, if_pos rfl] at this; cases this
  | c :: l, d :: m, hl, hm, h => by
    obtain ⟨h1, h2⟩ := up_cons.1 hl
    obtain ⟨g1, g2⟩ := up_cons.1 hm
    have hcd : c.key = d.key := by
      rcases ltS_tri c.key d.key with e | e | e
      · have := h c.key
        rw [getS, if_pos rfl] at this
        obtain ⟨hk, hmem⟩ := getS_key this.symm
        rcases List.mem_cons.1 hmem with rfl | hmem
        · exact absurd e (ltS_irrefl _)
        · exact absurd (ltS_trans e (g1 c hmem)) (ltS_irrefl _)
      · exact e
      · have := h d.key
        rw [getS.eq_2 d.key d m, if_pos rfl] at this
        obtain ⟨hk, hmem⟩ := getS_key this
        rcases List.mem_cons.1 hmem with rfl | hmem
        · exact absurd e (ltS_irrefl _)
        · exact absurd (ltS_trans e (h1 d hmem)) (ltS_irrefl _)
    have hce : c = d := by
      have := h c.key
      rw [getS, if_pos rfl, getS, if_pos hcd.symm] at this
      exact Option.some.inj this
    subst hce
    congr 1
    refine up_ext h2 g2 fun k => ?_
    by_cases e : c.key = k
    · rw [getS_none (fun x hx g => by have := h1 x hx; rw [e, g] at this; exact ltS_irrefl _ this), getS_none (fun x hx g => by have := g1 x hx; rw [e, g] at this; exact ltS_irrefl _ this)]
    · have := h k
      rwa [getS, if_neg e, getS, if_neg e] at this
end Go.Proofs
