/- index: the known example, walked. -/
import Derived.Test.YtiadcabmonbgiaaX3Z
import Derived.Test.YtiadcabmonbgiaaC2Z
set_option linter.all false
set_option maxRecDepth 100000
namespace Go.Proofs
open Go Go.Ev
variable {H : Heap}

def kA : Cell := ⟨[97], [120], 2, false, 0⟩
def kB : Cell := ⟨[98], [], 1, true, 0⟩
theorem kA_is : cellIs kA := by decide
theorem kB_is : cellIs kB := by decide
theorem ltAB : ltS [97] [98] := by rw [ltS_cons]; exact .inl (by decide)
theorem ltBA : ¬ ltS [98] [97] := ltS_asymm ltAB
theorem w1 : withC [] kB = [kB] := by rw [withC, if_pos kB_is]; rfl
theorem w2 : withC [kB] kA = [kA, kB] := by
  rw [withC, if_pos kA_is, withL, if_neg (show ¬ ltS kB.key kA.key from ltBA), if_neg (by decide)]
theorem k1 (H : Heap) : EI 22 [.nils, .agg [.str [98], .str [], .int .i64 1, .bool true, .int .i64 0]] H = .ok (.slice H.nx 0 1 5 false 1) (H.ext [.row true 5 [[.str [98], .str [], .int .i64 1, .bool true, .int .i64 0]]]) := by
  refine (e22 (v := .nils) (l := []) (.inl ⟨rfl, rfl⟩) (by decide) kB).trans ?_
  rw [w1]; rfl
theorem arr1 {L : List Blk} (h : L[2]? = some (.row true 5 [[.str [98], .str [], .int .i64 1, .bool true, .int .i64 0]])) : Arr (H.ext L) 5 (.slice (H.key 2) 0 1 5 false 1) ([kB].map Cell.enc) := outB_arr (xs := [kB.enc]) h
theorem arr2 {L : List Blk} (h : L[3]? = some (.row true 5 [[.str [97], .str [120], .int .i64 2, .bool false, .int .i64 0], [.str [98], .str [], .int .i64 1, .bool true, .int .i64 0]])) : Arr (H.ext L) 5 (.slice (H.key 3) 0 2 5 false 2) ([kA, kB].map Cell.enc) := outB_arr (xs := [kA.enc, kB.enc]) h
theorem k2 {L : List Blk} (h : L[2]? = some (.row true 5 [[.str [98], .str [], .int .i64 1, .bool true, .int .i64 0]])) : EI 22 [.slice (H.key 2) 0 1 5 false 1, .agg [.str [97], .str [120], .int .i64 2, .bool false, .int .i64 0]] (H.ext L) = .ok (.slice (H.key L.length) 0 2 5 false 2) (H.ext (L ++ [.row true 5 [[.str [97], .str [120], .int .i64 2, .bool false, .int .i64 0], [.str [98], .str [], .int .i64 1, .bool true, .int .i64 0]]])) := by
  refine (e22 (l := [kB]) (arr1 h) (by decide) kA).trans ?_
  rw [w2, Heap.nx_ext, Heap.ext_append]; rfl
theorem idx2 : isIdx [kA, kB] := by
  intro j hj
  match j, hj with
  | 0, _ => exact ⟨_, rfl, kA_is, fun h => absurd h (by decide)⟩
  | 1, _ => exact ⟨_, rfl, kB_is, fun _ => ⟨_, rfl, ltAB⟩⟩
theorem k17 {L : List Blk} (h : L[3]? = some (.row true 5 [[.str [97], .str [120], .int .i64 2, .bool false, .int .i64 0], [.str [98], .str [], .int .i64 1, .bool true, .int .i64 0]])) : EI 17 [.slice (H.key 3) 0 2 5 false 2] (H.ext L) = .ok (.bool true) (H.ext L) := by
  refine (e17 (l := [kA, kB]) (arr2 h) (by decide)).trans ?_
  rw [decide_eq_true idx2]
theorem isKey1 (x : Nat) : isKey [x] := ⟨by simp, by simp⟩
theorem win2 : withinL [98] [] [kA, kB] = [kB] := by
  have h1 : ¬ has [98] [] kA.key := fun h => h.2.2.1 ltAB
  have h2 : has [98] [] kB.key := ⟨⟨by decide, by decide, .inl rfl⟩, isKey1 _, ltS_irrefl _, .inl rfl⟩
  simp [withinL, h1, h2]
theorem k20 {L : List Blk} (h : L[3]? = some (.row true 5 [[.str [97], .str [120], .int .i64 2, .bool false, .int .i64 0], [.str [98], .str [], .int .i64 1, .bool true, .int .i64 0]])) : EI 20 [.slice (H.key 3) 0 2 5 false 2, .agg [.str [98], .str []]] (H.ext L) = .ok (.slice (H.key L.length) 0 1 5 false 1) (H.ext (L ++ [.row true 5 [[.str [98], .str [], .int .i64 1, .bool true, .int .i64 0]]])) := by
  refine (e20 (l := [kA, kB]) (arr2 h) (by decide) _ _).trans ?_
  rw [win2, Heap.nx_ext, Heap.ext_append]; rfl
theorem rows2 : rowsL [] [] 9 [kA, kB] = [kA] := by
  have h1 : has [] [] kA.key := ⟨⟨by decide, by decide, .inl rfl⟩, isKey1 _, not_ltS_nil _, .inl rfl⟩
  have h2 : ¬ there kB := by decide
  have h3 : there kA := by decide
  simp [rowsL, h1, h2, h3]
theorem k15 {L : List Blk} (h : L[3]? = some (.row true 5 [[.str [97], .str [120], .int .i64 2, .bool false, .int .i64 0], [.str [98], .str [], .int .i64 1, .bool true, .int .i64 0]])) : EI 15 [.slice (H.key 3) 0 2 5 false 2, .agg [.str [], .str []], .int .i64 9] (H.ext L) = .ok (.slice (H.key L.length) 0 1 3 false 1) (H.ext (L ++ [.row true 3 [[.str [97], .str [120], .int .i64 2]]])) := by
  refine (e15 (l := [kA, kB]) (arr2 h) (by decide) _ _ _).trans ?_
  rw [rows2, Heap.nx_ext, Heap.ext_append]; rfl
theorem g97 {L : List Blk} (h : L[3]? = some (.row true 5 [[.str [97], .str [120], .int .i64 2, .bool false, .int .i64 0], [.str [98], .str [], .int .i64 1, .bool true, .int .i64 0]])) : FnOk Try.prog 13 [.slice (H.key 3) 0 2 5 false 2, .str [97]] (H.ext L) fun r G => r = .tup [.agg [.str [97], .str [120], .int .i64 2, .bool false, .int .i64 0], .bool true] ∧ G = H.ext L := f13_ok (l := [kA, kB]) (arr2 h) (by decide) [97]
theorem g99 {L : List Blk} (h : L[3]? = some (.row true 5 [[.str [97], .str [120], .int .i64 2, .bool false, .int .i64 0], [.str [98], .str [], .int .i64 1, .bool true, .int .i64 0]])) : FnOk Try.prog 13 [.slice (H.key 3) 0 2 5 false 2, .str [99]] (H.ext L) fun r G => r = .tup [.agg [.str [99], .str [], .int .i64 0, .bool false, .int .i64 0], .bool false] ∧ G = H.ext L := f13_ok (l := [kA, kB]) (arr2 h) (by decide) [99]
theorem readC_z {β : Type} (f : β) (esz : Nat) (x y : List AV) (rows : List (List AV)) (n : Nat) (c : List AV → β) (hp : 0 < esz) (hn : n ≤ esz) : readC f esz (x :: y :: rows) 0 n c = bif' (Nat.beq n esz) (c x) (takeC f n x c) := by
  have := readC_at0 f esz (x :: y :: rows) 0 n c hp hn
  rwa [Nat.zero_mul] at this
theorem f11_ok : FnOk Try.prog 11 [] H fun r G => r = .bool true ∧ G = H := by
  refine FnOk.assume fun hok => ?_
  refine FnOk.drop (R := fun r => r = .bool true) ?_ (by rintro v rfl ρ; rw [AV.ren])
  refine FnOk.of_WW Try.func11 rfl C11ok R11ok EI good_EI ?_
  simp only [go_sem, C11, Nat.reduceAdd, Nat.reduceSub, Nat.reduceMul, Nat.reduceDiv, Nat.reduceMod, Nat.reduceEqDiff, Nat.reduceLeDiff, Nat.reduceLT, Int.reduceLT, Int.reduceLE, Int.reduceEq, Int.reduceToNat, reduceIte, reduceCtorEq]
  simp only [go_sem, k1, k2, Nat.reduceAdd, Nat.reduceSub, Nat.reduceMul, Nat.reduceDiv, Nat.reduceMod, Nat.reduceEqDiff, Nat.reduceLeDiff, Nat.reduceLT, Int.reduceLT, Int.reduceLE, Int.reduceEq, Int.reduceToNat, reduceIte, reduceCtorEq]
  refine CL.of (g97 rfl) ?_
  rintro _ _ ⟨rfl, rfl⟩
  simp only [go_sem, Nat.reduceAdd, Nat.reduceSub, Nat.reduceMul, Nat.reduceDiv, Nat.reduceMod, Nat.reduceEqDiff, Nat.reduceLeDiff, Nat.reduceLT, Int.reduceLT, Int.reduceLE, Int.reduceEq, Int.reduceToNat, reduceIte, reduceCtorEq]
  refine CL.of (g99 rfl) ?_
  rintro _ _ ⟨rfl, rfl⟩
  simp only [go_sem, Nat.reduceAdd, Nat.reduceSub, Nat.reduceMul, Nat.reduceDiv, Nat.reduceMod, Nat.reduceEqDiff, Nat.reduceLeDiff, Nat.reduceLT, Int.reduceLT, Int.reduceLE, Int.reduceEq, Int.reduceToNat, reduceIte, reduceCtorEq, k17, k20, k15, readC_z]
  exact ⟨_, rfl⟩

end Go.Proofs
