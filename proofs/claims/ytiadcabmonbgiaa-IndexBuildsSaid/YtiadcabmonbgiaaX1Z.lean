/- index: a cell put in its place, walked. -/
import Derived.Test.YtiadcabmonbgiaaW9Z
import Derived.Test.YtiadcabmonbgiaaEvAF
set_option linter.all false
set_option maxRecDepth 100000
namespace Go.Proofs
open Go Go.Ev
variable {H : Heap}

theorem clo50 : CloFn Try.prog 50 5 56 [.str [], .str [], .int .i64 0, .bool false, .int .i64 0] := ⟨⟨Try.f50, Try.func50, by kernel_rfl, by kernel_rfl⟩, rfl, by decide⟩
theorem ins51 : InsFn Try.prog 51 5 56 [.str [], .str [], .int .i64 0, .bool false, .int .i64 0] := ⟨⟨Try.f51, 66, 67, Try.func51, by kernel_rfl, by kernel_rfl, by kernel_rfl, by kernel_rfl⟩, rfl, by decide⟩
/-- the cell c put among the cells l -/
noncomputable def withL (l : List Cell) (c : Cell) : List Cell :=
  match l with
  | [] => [c]
  | d :: l => if ltS d.key c.key then d :: withL l c else if d.key = c.key then c :: l else c :: d :: l
theorem withL_at : ∀ (l : List Cell) (c : Cell) (i : Nat), (∀ j d, j < i → l[j]? = some d → ltS d.key c.key) → i ≤ l.length →
    (∀ d, l[i]? = some d → ¬ ltS d.key c.key) → withL l c = l.take i ++ c :: (match l[i]? with | none => [] | some d => if d.key = c.key then l.drop (i + 1) else l.drop i)
  | [], c, i, _, hi, _ => by
    obtain rfl : i = 0 := by simpa using hi
    rfl
  | d :: l, c, 0, _, _, h => by
    have := h d rfl
    simp [withL, this]
    split <;> rfl
  | d :: l, c, i + 1, h, hi, h2 => by
    have h1 := h 0 d (by omega) rfl
    have ih := withL_at l c i (fun j e hj he => h (j + 1) e (by omega) (by simpa using he)) (by simpa using hi) (fun e he => h2 e (by simpa using he))
    simp only [withL, h1, if_true, ih, List.take_succ_cons, List.cons_append, List.getElem?_cons_succ, List.drop_succ_cons]

noncomputable def withC (l : List Cell) (c : Cell) : List Cell := if cellIs c then withL l c else l
/-- a slice handed back that is nil only where the given one is -/
def frV (v : AV) (k : K) (esz n : Nat) : AV := match v with | .nils => outV k esz n | _ => .slice k 0 n esz false n
def frL (v : AV) (esz : Nat) (xs : List (List AV)) : List Blk := match v with | .nils => outL esz xs | _ => [.row true esz xs]

theorem f22_nil {c : Cell} : FnOk Try.prog 22 [.nils, .agg c.enc] H fun r G => r = frV (.nils) H.nx 5 (withC [] c).length ∧ G = H.ext (frL (.nils) 5 ((withC [] c).map Cell.enc)) := by
  refine FnOk.assume fun hok => ?_
  by_cases hc : cellIs c
  · rw [withC, if_pos hc]
    refine FnOk.drop1 (esz := 5) (n := 1) (ex := false) (cap := 1) (b := .row true 5 [c.enc]) ?_ (fun ρ => by simp only [Blk.ren, List.map_cons, List.map_nil, Cell.rens])
    refine FnOk.of_WW Try.func22 rfl C22ok R22ok E0 good_E0 ?_
    simp only [go_sem, C22, Nat.reduceAdd, Nat.reduceSub, Nat.reduceMul, Nat.reduceDiv, Nat.reduceMod, Nat.reduceEqDiff, Nat.reduceLeDiff, Nat.reduceLT, Int.reduceLT, Int.reduceLE, Int.reduceEq, Int.reduceToNat, reduceIte, reduceCtorEq, Cell.enc]
    refine CL.of (clone_nil clo50) ?_
    rintro _ _ ⟨rfl, rfl⟩
    simp only [go_sem, Nat.reduceAdd, Nat.reduceSub, Nat.reduceMul, Nat.reduceDiv, Nat.reduceMod, Nat.reduceEqDiff, Nat.reduceLeDiff, Nat.reduceLT, Int.reduceLT, Int.reduceLE, Int.reduceEq, Int.reduceToNat, reduceIte, reduceCtorEq, List.length_nil, List.map_nil, List.length_cons, List.map_cons, List.replicate_succ, List.replicate_zero, List.set_cons_zero, List.take_succ_cons, List.take_zero, List.take_nil, List.length_append, List.map_append, List.cons_append, List.nil_append, List.drop_succ_cons, List.append_nil, Cell.enc]
    refine CL.bool (f48_ok c) (fun h1 => ?_) (fun h1 => absurd hc h1)
    simp only [go_sem, Nat.reduceAdd, Nat.reduceSub, Nat.reduceMul, Nat.reduceDiv, Nat.reduceMod, Nat.reduceEqDiff, Nat.reduceLeDiff, Nat.reduceLT, Int.reduceLT, Int.reduceLE, Int.reduceEq, Int.reduceToNat, reduceIte, reduceCtorEq, List.length_nil, List.map_nil, List.length_cons, List.map_cons, List.replicate_succ, List.replicate_zero, List.set_cons_zero, List.take_succ_cons, List.take_zero, List.take_nil, List.length_append, List.map_append, List.cons_append, List.nil_append, List.drop_succ_cons, List.append_nil]
    refine LL.st good_E0 (fun i : Nat => 0) (fun i => True)
      (fun i => [((.o (.o .z)), .ptr (H.key 0) 0), ((.o (.i .z)), .nils), ((.i (.i .z)), .int .i64 0)])
      (fun i => [.row true 5 [c.enc]]) ?_ 0 (σ := [0]) (Wk.mk' rfl (by decide) (by simp only [go_sem, List.map_nil, Cell.enc, Nat.reduceAdd, Nat.reduceSub, Nat.reduceMul, Nat.reduceDiv, Nat.reduceMod, Nat.reduceEqDiff, Nat.reduceLeDiff, Nat.reduceLT, Int.reduceLT, Int.reduceLE, Int.reduceEq, Int.reduceToNat, reduceIte, reduceCtorEq]) (by simp only [go_sem, List.map_nil, Cell.enc, Nat.reduceAdd, Nat.reduceSub, Nat.reduceMul, Nat.reduceDiv, Nat.reduceMod, Nat.reduceEqDiff, Nat.reduceLeDiff, Nat.reduceLT, Int.reduceLT, Int.reduceLE, Int.reduceEq, Int.reduceToNat, reduceIte, reduceCtorEq])) trivial
    rintro i -
    simp only [go_sem, C22L0, Nat.reduceAdd, Nat.reduceSub, Nat.reduceMul, Nat.reduceDiv, Nat.reduceMod, Nat.reduceEqDiff, Nat.reduceLeDiff, Nat.reduceLT, Int.reduceLT, Int.reduceLE, Int.reduceEq, Int.reduceToNat, reduceIte, reduceCtorEq, Cell.enc, List.length_nil, List.map_nil, List.length_cons, List.map_cons, List.replicate_succ, List.replicate_zero, List.set_cons_zero, List.take_succ_cons, List.take_zero, List.take_nil, List.length_append, List.map_append, List.cons_append, List.nil_append, List.drop_succ_cons, List.append_nil]
    refine CL.of (insert_nil ins51 (x := c.enc) (wr := true) (by rw [Heap.get_ext_key _ _ _ (by simp)]; rfl) (by decide)) ?_
    rintro _ _ ⟨rfl, rfl⟩
    simp only [go_sem, Nat.reduceAdd, Nat.reduceSub, Nat.reduceMul, Nat.reduceDiv, Nat.reduceMod, Nat.reduceEqDiff, Nat.reduceLeDiff, Nat.reduceLT, Int.reduceLT, Int.reduceLE, Int.reduceEq, Int.reduceToNat, reduceIte, reduceCtorEq, List.length_nil, List.map_nil, List.length_cons, List.map_cons, List.replicate_succ, List.replicate_zero, List.set_cons_zero, List.take_succ_cons, List.take_zero, List.take_nil, List.length_append, List.map_append, List.cons_append, List.nil_append, List.drop_succ_cons, List.append_nil]
    exact ⟨_, 2, rfl, rfl, rfl⟩
  · rw [withC, if_neg hc]
    refine (FnOk.drop (R := fun r => r = .nils) ?_ (by rintro v rfl ρ; rw [AV.ren])).mono (by rintro v G ⟨rfl, rfl⟩; exact ⟨rfl, (Heap.ext_nil _).symm⟩)
    refine FnOk.of_WW Try.func22 rfl C22ok R22ok E0 good_E0 ?_
    simp only [go_sem, C22, Nat.reduceAdd, Nat.reduceSub, Nat.reduceMul, Nat.reduceDiv, Nat.reduceMod, Nat.reduceEqDiff, Nat.reduceLeDiff, Nat.reduceLT, Int.reduceLT, Int.reduceLE, Int.reduceEq, Int.reduceToNat, reduceIte, reduceCtorEq, Cell.enc]
    refine CL.of (clone_nil clo50) ?_
    rintro _ _ ⟨rfl, rfl⟩
    simp only [go_sem, Nat.reduceAdd, Nat.reduceSub, Nat.reduceMul, Nat.reduceDiv, Nat.reduceMod, Nat.reduceEqDiff, Nat.reduceLeDiff, Nat.reduceLT, Int.reduceLT, Int.reduceLE, Int.reduceEq, Int.reduceToNat, reduceIte, reduceCtorEq, List.length_nil, List.map_nil, List.length_cons, List.map_cons, List.replicate_succ, List.replicate_zero, List.set_cons_zero, List.take_succ_cons, List.take_zero, List.take_nil, List.length_append, List.map_append, List.cons_append, List.nil_append, List.drop_succ_cons, List.append_nil, Cell.enc]
    refine CL.bool (f48_ok c) (fun h1 => absurd h1 hc) (fun h1 => ?_)
    simp only [go_sem, Nat.reduceAdd, Nat.reduceSub, Nat.reduceMul, Nat.reduceDiv, Nat.reduceMod, Nat.reduceEqDiff, Nat.reduceLeDiff, Nat.reduceLT, Int.reduceLT, Int.reduceLE, Int.reduceEq, Int.reduceToNat, reduceIte, reduceCtorEq, List.length_nil, List.map_nil, List.length_cons, List.map_cons, List.replicate_succ, List.replicate_zero, List.set_cons_zero, List.take_succ_cons, List.take_zero, List.take_nil, List.length_append, List.map_append, List.cons_append, List.nil_append, List.drop_succ_cons, List.append_nil]
    exact ⟨_, rfl⟩

theorem f22_zero {c : Cell} {k : K} {off : Nat} {ex : Bool} {cap : Nat} : FnOk Try.prog 22 [.slice k off 0 5 ex cap, .agg c.enc] H fun r G => r = frV (.slice k off 0 5 ex cap) H.nx 5 (withC [] c).length ∧ G = H.ext (frL (.slice k off 0 5 ex cap) 5 ((withC [] c).map Cell.enc)) := by
  refine FnOk.assume fun hok => ?_
  by_cases hc : cellIs c
  · rw [withC, if_pos hc]
    refine FnOk.drop1 (esz := 5) (n := 1) (ex := false) (cap := 1) (b := .row true 5 [c.enc]) ?_ (fun ρ => by simp only [Blk.ren, List.map_cons, List.map_nil, Cell.rens])
    refine FnOk.of_WW Try.func22 rfl C22ok R22ok E0 good_E0 ?_
    simp only [go_sem, C22, Nat.reduceAdd, Nat.reduceSub, Nat.reduceMul, Nat.reduceDiv, Nat.reduceMod, Nat.reduceEqDiff, Nat.reduceLeDiff, Nat.reduceLT, Int.reduceLT, Int.reduceLE, Int.reduceEq, Int.reduceToNat, reduceIte, reduceCtorEq, Cell.enc]
    refine CL.of (clone_zero clo50) ?_
    rintro _ _ ⟨rfl, rfl⟩
    simp only [go_sem, Nat.reduceAdd, Nat.reduceSub, Nat.reduceMul, Nat.reduceDiv, Nat.reduceMod, Nat.reduceEqDiff, Nat.reduceLeDiff, Nat.reduceLT, Int.reduceLT, Int.reduceLE, Int.reduceEq, Int.reduceToNat, reduceIte, reduceCtorEq, List.length_nil, List.map_nil, List.length_cons, List.map_cons, List.replicate_succ, List.replicate_zero, List.set_cons_zero, List.take_succ_cons, List.take_zero, List.take_nil, List.length_append, List.map_append, List.cons_append, List.nil_append, List.drop_succ_cons, List.append_nil, Cell.enc]
    refine CL.bool (f48_ok c) (fun h1 => ?_) (fun h1 => absurd hc h1)
    simp only [go_sem, Nat.reduceAdd, Nat.reduceSub, Nat.reduceMul, Nat.reduceDiv, Nat.reduceMod, Nat.reduceEqDiff, Nat.reduceLeDiff, Nat.reduceLT, Int.reduceLT, Int.reduceLE, Int.reduceEq, Int.reduceToNat, reduceIte, reduceCtorEq, List.length_nil, List.map_nil, List.length_cons, List.map_cons, List.replicate_succ, List.replicate_zero, List.set_cons_zero, List.take_succ_cons, List.take_zero, List.take_nil, List.length_append, List.map_append, List.cons_append, List.nil_append, List.drop_succ_cons, List.append_nil]
    refine LL.st good_E0 (fun i : Nat => 0) (fun i => True)
      (fun i => [((.o (.o .z)), .ptr (H.key 0) 0), ((.o (.i .z)), .slice (H.key 1) 0 0 5 true 0), ((.i (.i .z)), .int .i64 0)])
      (fun i => [.row true 5 [c.enc], .row true 5 []]) ?_ 0 (σ := [0, 1]) (Wk.mk' rfl (by decide) (by simp only [go_sem, List.map_nil, Cell.enc, Nat.reduceAdd, Nat.reduceSub, Nat.reduceMul, Nat.reduceDiv, Nat.reduceMod, Nat.reduceEqDiff, Nat.reduceLeDiff, Nat.reduceLT, Int.reduceLT, Int.reduceLE, Int.reduceEq, Int.reduceToNat, reduceIte, reduceCtorEq]) (by simp only [go_sem, List.map_nil, Cell.enc, Nat.reduceAdd, Nat.reduceSub, Nat.reduceMul, Nat.reduceDiv, Nat.reduceMod, Nat.reduceEqDiff, Nat.reduceLeDiff, Nat.reduceLT, Int.reduceLT, Int.reduceLE, Int.reduceEq, Int.reduceToNat, reduceIte, reduceCtorEq])) trivial
    rintro i -
    simp only [go_sem, C22L0, Nat.reduceAdd, Nat.reduceSub, Nat.reduceMul, Nat.reduceDiv, Nat.reduceMod, Nat.reduceEqDiff, Nat.reduceLeDiff, Nat.reduceLT, Int.reduceLT, Int.reduceLE, Int.reduceEq, Int.reduceToNat, reduceIte, reduceCtorEq, Cell.enc, List.length_nil, List.map_nil, List.length_cons, List.map_cons, List.replicate_succ, List.replicate_zero, List.set_cons_zero, List.take_succ_cons, List.take_zero, List.take_nil, List.length_append, List.map_append, List.cons_append, List.nil_append, List.drop_succ_cons, List.append_nil]
    refine CL.of (insert_zero ins51 (x := c.enc) (wr := true) (by rw [Heap.get_ext_key _ _ _ (by simp)]; rfl) (by rw [Heap.get_ext_key _ _ _ (by simp)]; rfl) (by decide)) ?_
    rintro _ _ ⟨rfl, rfl⟩
    simp only [go_sem, Nat.reduceAdd, Nat.reduceSub, Nat.reduceMul, Nat.reduceDiv, Nat.reduceMod, Nat.reduceEqDiff, Nat.reduceLeDiff, Nat.reduceLT, Int.reduceLT, Int.reduceLE, Int.reduceEq, Int.reduceToNat, reduceIte, reduceCtorEq, List.length_nil, List.map_nil, List.length_cons, List.map_cons, List.replicate_succ, List.replicate_zero, List.set_cons_zero, List.take_succ_cons, List.take_zero, List.take_nil, List.length_append, List.map_append, List.cons_append, List.nil_append, List.drop_succ_cons, List.append_nil]
    exact ⟨_, 3, rfl, rfl, rfl⟩
  · rw [withC, if_neg hc]
    refine FnOk.loose (FnOk.drop1 (esz := 5) (n := 0) (ex := true) (cap := 0) (b := .row true 5 []) ?_ (fun ρ => rfl))
    refine FnOk.of_WW Try.func22 rfl C22ok R22ok E0 good_E0 ?_
    simp only [go_sem, C22, Nat.reduceAdd, Nat.reduceSub, Nat.reduceMul, Nat.reduceDiv, Nat.reduceMod, Nat.reduceEqDiff, Nat.reduceLeDiff, Nat.reduceLT, Int.reduceLT, Int.reduceLE, Int.reduceEq, Int.reduceToNat, reduceIte, reduceCtorEq, Cell.enc]
    refine CL.of (clone_zero clo50) ?_
    rintro _ _ ⟨rfl, rfl⟩
    simp only [go_sem, Nat.reduceAdd, Nat.reduceSub, Nat.reduceMul, Nat.reduceDiv, Nat.reduceMod, Nat.reduceEqDiff, Nat.reduceLeDiff, Nat.reduceLT, Int.reduceLT, Int.reduceLE, Int.reduceEq, Int.reduceToNat, reduceIte, reduceCtorEq, List.length_nil, List.map_nil, List.length_cons, List.map_cons, List.replicate_succ, List.replicate_zero, List.set_cons_zero, List.take_succ_cons, List.take_zero, List.take_nil, List.length_append, List.map_append, List.cons_append, List.nil_append, List.drop_succ_cons, List.append_nil, Cell.enc]
    refine CL.bool (f48_ok c) (fun h1 => absurd h1 hc) (fun h1 => ?_)
    simp only [go_sem, Nat.reduceAdd, Nat.reduceSub, Nat.reduceMul, Nat.reduceDiv, Nat.reduceMod, Nat.reduceEqDiff, Nat.reduceLeDiff, Nat.reduceLT, Int.reduceLT, Int.reduceLE, Int.reduceEq, Int.reduceToNat, reduceIte, reduceCtorEq, List.length_nil, List.map_nil, List.length_cons, List.map_cons, List.replicate_succ, List.replicate_zero, List.set_cons_zero, List.take_succ_cons, List.take_zero, List.take_nil, List.length_append, List.map_append, List.cons_append, List.nil_append, List.drop_succ_cons, List.append_nil]
    exact ⟨_, 1, rfl, rfl, rfl⟩

theorem f22_arr {c : Cell} {l : List Cell} {k : K} {off : Nat} {ex : Bool} {cap : Nat} (hA : Arr H 5 (.slice k off (l.map Cell.enc).length 5 ex cap) (l.map Cell.enc)) (h0 : 0 < l.length) (hl : l.length < 4294967295) :
    FnOk Try.prog 22 [.slice k off (l.map Cell.enc).length 5 ex cap, .agg c.enc] H fun r G => r = .slice H.nx 0 (withC l c).length 5 false (withC l c).length ∧ G = H.ext [.row true 5 ((withC l c).map Cell.enc)] := by
  refine FnOk.assume fun hok => ?_
  have hmb : (2 * (l.map Cell.enc).length + 192) * 56 ≤ 281474976710656 := by rw [List.length_map]; omega
  have hclo := clone_any clo50 (hA.ext [.row true 5 [c.enc]]) hmb (Cell.map_rens · l)
  refine FnOk.drop1 (esz := 5) (n := (withC l c).length) (ex := false) (cap := (withC l c).length) (b := .row true 5 ((withC l c).map Cell.enc)) ?_ (fun ρ => by rw [Blk.ren, Cell.map_rens])
  refine FnOk.of_WW Try.func22 rfl C22ok R22ok E0 good_E0 ?_
  simp only [go_sem, C22, Nat.reduceAdd, Nat.reduceSub, Nat.reduceMul, Nat.reduceDiv, Nat.reduceMod, Nat.reduceEqDiff, Nat.reduceLeDiff, Nat.reduceLT, Int.reduceLT, Int.reduceLE, Int.reduceEq, Int.reduceToNat, reduceIte, reduceCtorEq, Cell.enc]
  simp only [Cell.enc, List.length_map] at hclo
  refine CL.of hclo ?_
  rintro v G (⟨rfl, hn, rfl⟩ | ⟨rfl, rfl⟩)
  · exact absurd (congrArg List.length hn) (by rw [List.length_map, List.length_nil]; omega)
  have hins : ∀ i ≤ l.length, _ := fun i (hi : i ≤ l.length) => insert_own (H := H.ext [.row true 5 [c.enc], .row true 5 (l.map Cell.enc), .row true 5 [c.enc]]) ins51 (kv := H.key 2) (k := H.key 1) (x := c.enc) (i := i) (rows := l.map Cell.enc) (fun e => absurd (congrArg K.toNat e) (by rw [Heap.toNat_key, Heap.toNat_key]; omega)) (by rw [Heap.get_ext_key _ _ _ (by simp)]; rfl) (by rw [Heap.get_ext_key _ _ _ (by simp)]; rfl) (by rw [List.length_map]; omega) (by rw [List.length_map]; omega) (by rw [List.length_map]; omega) (by rw [List.length_map]; omega)
  simp only [Cell.enc, List.length_map] at hins
  simp only [go_sem, Nat.reduceAdd, Nat.reduceSub, Nat.reduceMul, Nat.reduceDiv, Nat.reduceMod, Nat.reduceEqDiff, Nat.reduceLeDiff, Nat.reduceLT, Int.reduceLT, Int.reduceLE, Int.reduceEq, Int.reduceToNat, reduceIte, reduceCtorEq, List.length_nil, List.map_nil, List.length_cons, List.map_cons, List.replicate_succ, List.replicate_zero, List.set_cons_zero, List.take_succ_cons, List.take_zero, List.take_nil, List.length_append, List.map_append, List.cons_append, List.nil_append, List.drop_succ_cons, List.append_nil, List.length_map]
  refine CL.bool (f48_ok c) (fun h1 => ?_) (fun h1 => ?_)
  · simp only [go_sem, Nat.reduceAdd, Nat.reduceSub, Nat.reduceMul, Nat.reduceDiv, Nat.reduceMod, Nat.reduceEqDiff, Nat.reduceLeDiff, Nat.reduceLT, Int.reduceLT, Int.reduceLE, Int.reduceEq, Int.reduceToNat, reduceIte, reduceCtorEq, List.length_nil, List.map_nil, List.length_cons, List.map_cons, List.replicate_succ, List.replicate_zero, List.set_cons_zero, List.take_succ_cons, List.take_zero, List.take_nil, List.length_append, List.map_append, List.cons_append, List.nil_append, List.drop_succ_cons, List.append_nil]
    rw [withC, if_pos h1]
    refine LL.st good_E0 (fun i : Nat => l.length - i) (fun i => i ≤ l.length ∧ ∀ j d, j < i → l[j]? = some d → ltS d.key c.key)
      (fun i => [((.o (.o .z)), .ptr (H.key 0) 0), ((.o (.i .z)), .slice (H.key 1) 0 l.length 5 false l.length), ((.i (.i .z)), .int .i64 i)])
      (fun i => [.row true 5 [c.enc], .row true 5 (l.map Cell.enc)]) ?_ 0 (σ := [0, 1]) (Wk.mk' rfl (by decide) (by simp only [go_sem, List.map_nil, List.map_cons, Cell.enc, Cell.map_rens, Nat.reduceAdd, Nat.reduceSub, Nat.reduceMul, Nat.reduceDiv, Nat.reduceMod, Nat.reduceEqDiff, Nat.reduceLeDiff, Nat.reduceLT, Int.reduceLT, Int.reduceLE, Int.reduceEq, Int.reduceToNat, reduceIte, reduceCtorEq]) (by simp only [go_sem, List.map_nil, List.map_cons, Cell.enc, Cell.map_rens, Nat.reduceAdd, Nat.reduceSub, Nat.reduceMul, Nat.reduceDiv, Nat.reduceMod, Nat.reduceEqDiff, Nat.reduceLeDiff, Nat.reduceLT, Int.reduceLT, Int.reduceLE, Int.reduceEq, Int.reduceToNat, reduceIte, reduceCtorEq])) ⟨by omega, by intro j d h; omega⟩
    rintro i ⟨hi, hno⟩
    have hins := hins i hi
    by_cases hlt : i < l.length
    · have hw := wrap_succ (n := i) (by omega)
      have hci : (i : Int) < (l.length : Int) := by omega
      have hsi : i + 1 ≤ l.length := by omega
      have hget : l[i]? = some l[i] := List.getElem?_eq_getElem hlt
      have hmi : (l.map Cell.enc)[i]? = some l[i].enc := by rw [List.getElem?_map, hget]; rfl
      simp only [go_sem, C22L0, Nat.reduceAdd, Nat.reduceSub, Nat.reduceMul, Nat.reduceDiv, Nat.reduceMod, Nat.reduceEqDiff, Nat.reduceLeDiff, Nat.reduceLT, Int.reduceLT, Int.reduceLE, Int.reduceEq, Int.reduceToNat, reduceIte, reduceCtorEq, List.length_nil, List.map_nil, List.length_cons, List.map_cons, List.replicate_succ, List.replicate_zero, List.set_cons_zero, List.take_succ_cons, List.take_zero, List.take_nil, List.length_append, List.map_append, List.cons_append, List.nil_append, List.drop_succ_cons, List.append_nil, hw, hci, hsi, hmi, hget, Cell.enc]
      refine ⟨fun h2 => ?_, fun h2 => ?_⟩
      · refine ⟨i + 1, by show l.length - (i + 1) < l.length - i; omega, ⟨by omega, ?_⟩, _, [0, 1], rfl, Wk.mk' rfl (by decide) (by simp only [go_sem, List.length_map, Cell.map_rens, List.length_nil, List.map_nil, List.length_cons, List.map_cons, List.replicate_succ, List.replicate_zero, List.set_cons_zero, List.take_succ_cons, List.take_zero, List.take_nil, List.length_append, List.map_append, List.cons_append, List.nil_append, List.drop_succ_cons, List.append_nil, Nat.reduceAdd, Nat.reduceSub, Nat.reduceMul, Nat.reduceDiv, Nat.reduceMod, Nat.reduceEqDiff, Nat.reduceLeDiff, Nat.reduceLT, Int.reduceLT, Int.reduceLE, Int.reduceEq, Int.reduceToNat, reduceIte, reduceCtorEq]) (by simp only [go_sem, List.length_map, Cell.map_rens, List.length_nil, List.map_nil, List.length_cons, List.map_cons, List.replicate_succ, List.replicate_zero, List.set_cons_zero, List.take_succ_cons, List.take_zero, List.take_nil, List.length_append, List.map_append, List.cons_append, List.nil_append, List.drop_succ_cons, List.append_nil, Nat.reduceAdd, Nat.reduceSub, Nat.reduceMul, Nat.reduceDiv, Nat.reduceMod, Nat.reduceEqDiff, Nat.reduceLeDiff, Nat.reduceLT, Int.reduceLT, Int.reduceLE, Int.reduceEq, Int.reduceToNat, reduceIte, reduceCtorEq])⟩
        intro j d hj hd
        rcases Nat.lt_or_ge j i with g | g
        · exact hno j d g hd
        · obtain rfl : j = i := by omega
          rw [hget] at hd; cases hd; exact h2
      · have hwl := withL_at l c i hno hi (fun d hd => by rw [hget] at hd; cases hd; exact h2)
        rw [hget] at hwl
        refine ⟨fun h3 => ?_, fun h3 => ?_⟩
        · rw [hwl]
          simp only [h3, if_true]
          have hlen : (List.take i l ++ c :: List.drop (i + 1) l).length = l.length := by rw [List.length_append, List.length_take, List.length_cons, List.length_drop]; omega
          rw [hlen]
          refine ⟨_, 1, rfl, rfl, ?_⟩
          rw [List.map_append, List.map_cons, List.map_take, List.map_drop]
          rw [show [AV.str c.key, AV.str c.value, AV.int .i64 c.ver, AV.bool c.del, AV.int .i64 c.floor] = c.enc from rfl, List.set_eq_take_append_cons_drop, if_pos (by rw [List.length_map]; exact hlt)]
          rfl
        · refine CL.of hins ?_
          rintro _ _ ⟨rfl, rfl⟩
          simp only [go_sem, Nat.reduceAdd, Nat.reduceSub, Nat.reduceMul, Nat.reduceDiv, Nat.reduceMod, Nat.reduceEqDiff, Nat.reduceLeDiff, Nat.reduceLT, Int.reduceLT, Int.reduceLE, Int.reduceEq, Int.reduceToNat, reduceIte, reduceCtorEq, List.length_nil, List.map_nil, List.length_cons, List.map_cons, List.replicate_succ, List.replicate_zero, List.set_cons_zero, List.take_succ_cons, List.take_zero, List.take_nil, List.length_append, List.map_append, List.cons_append, List.nil_append, List.drop_succ_cons, List.append_nil, List.length_map]
          rw [hwl]
          simp only [h3, if_false]
          have hlen : (List.take i l ++ c :: List.drop i l).length = l.length + 1 := by rw [List.length_append, List.length_take, List.length_cons, List.length_drop]; omega
          rw [hlen, Heap.set_ext_key _ _ _ _ (by simp), Heap.ext_append]
          refine ⟨_, 3, rfl, rfl, ?_⟩
          rw [List.map_append, List.map_cons]
          first | rw [List.map_take, List.map_drop] | rw [List.map_take, List.map_nil]
          rfl
    · have hci : ¬ (i : Int) < (l.length : Int) := by omega
      have hin : i = l.length := by omega
      have hnone : l[i]? = none := List.getElem?_eq_none (by omega)
      have hwl := withL_at l c i hno hi (fun d hd => by rw [hnone] at hd; cases hd)
      rw [hnone] at hwl
      simp only [go_sem, C22L0, Nat.reduceAdd, Nat.reduceSub, Nat.reduceMul, Nat.reduceDiv, Nat.reduceMod, Nat.reduceEqDiff, Nat.reduceLeDiff, Nat.reduceLT, Int.reduceLT, Int.reduceLE, Int.reduceEq, Int.reduceToNat, reduceIte, reduceCtorEq, List.length_map, hci, Cell.enc, List.length_nil, List.map_nil, List.length_cons, List.map_cons, List.replicate_succ, List.replicate_zero, List.set_cons_zero, List.take_succ_cons, List.take_zero, List.take_nil, List.length_append, List.map_append, List.cons_append, List.nil_append, List.drop_succ_cons, List.append_nil]
      refine CL.of hins ?_
      rintro _ _ ⟨rfl, rfl⟩
      simp only [go_sem, Nat.reduceAdd, Nat.reduceSub, Nat.reduceMul, Nat.reduceDiv, Nat.reduceMod, Nat.reduceEqDiff, Nat.reduceLeDiff, Nat.reduceLT, Int.reduceLT, Int.reduceLE, Int.reduceEq, Int.reduceToNat, reduceIte, reduceCtorEq, List.length_nil, List.map_nil, List.length_cons, List.map_cons, List.replicate_succ, List.replicate_zero, List.set_cons_zero, List.take_succ_cons, List.take_zero, List.take_nil, List.length_append, List.map_append, List.cons_append, List.nil_append, List.drop_succ_cons, List.append_nil, List.length_map]
      rw [hwl]
      have hlen : (List.take i l ++ [c]).length = l.length + 1 := by rw [List.length_append, List.length_take, List.length_cons, List.length_nil]; omega
      have hdr : List.drop i (l.map Cell.enc) = [] := List.drop_of_length_le (by rw [List.length_map]; omega)
      simp only [hdr]
      rw [hlen, Heap.set_ext_key _ _ _ _ (by simp), Heap.ext_append]
      refine ⟨_, 3, rfl, rfl, ?_⟩
      rw [List.map_append, List.map_cons]
      first | rw [List.map_take, List.map_drop] | rw [List.map_take, List.map_nil]
      rfl
  · simp only [go_sem, Nat.reduceAdd, Nat.reduceSub, Nat.reduceMul, Nat.reduceDiv, Nat.reduceMod, Nat.reduceEqDiff, Nat.reduceLeDiff, Nat.reduceLT, Int.reduceLT, Int.reduceLE, Int.reduceEq, Int.reduceToNat, reduceIte, reduceCtorEq, List.length_nil, List.map_nil, List.length_cons, List.map_cons, List.replicate_succ, List.replicate_zero, List.set_cons_zero, List.take_succ_cons, List.take_zero, List.take_nil, List.length_append, List.map_append, List.cons_append, List.nil_append, List.drop_succ_cons, List.append_nil]
    rw [withC, if_neg h1]
    exact ⟨_, 1, rfl, rfl, rfl⟩

end Go.Proofs
