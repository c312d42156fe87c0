/- NodeHands: names; what is to be reckoned. Printed by a program. -/
import Derived.Test.YtkhaejbkdgbjcaaGreatDoorZ21
import Derived.KernelRfl
set_option linter.all false
set_option maxRecDepth 100000
namespace Go.Proofs
open Go Go.Ev
/-- names of what is new -/
def yP : Nat → List Nat
  | 0 => [1, 253, 3, 4, 5, 6, 244, 230, 232, 240]
  | 1 => [1, 310, 3, 4, 5, 6, 301, 285, 287, 297]
  | 2 => [1, 316, 3, 4, 5, 6, 307, 291, 293, 303]
  | 3 => [1, 316, 3, 4, 5, 6, 307, 293, 295, 303]
  | 4 => [1, 319, 3, 4, 5, 6, 310, 296, 298, 306]
  | 5 => [1, 322, 3, 4, 5, 6, 313, 299, 301, 309]
  | 6 => [1, 325, 3, 4, 5, 6, 316, 302, 304, 312]
  | 7 => [1, 328, 3, 4, 5, 6, 319, 305, 307, 315]
  | 8 => [1, 331, 3, 4, 5, 6, 322, 308, 310, 318]
  | 9 => [1, 304, 3, 4, 5, 6, 295, 281, 283, 291]
  | 10 => [1, 307, 3, 4, 5, 6, 298, 284, 286, 294]
  | 11 => [1, 310, 3, 4, 5, 6, 301, 287, 289, 297]
  | 12 => [1, 313, 3, 4, 5, 6, 304, 290, 292, 300]
  | 13 => [1, 316, 3, 4, 5, 6, 307, 293, 295, 303]
  | 14 => [1, 319, 3, 4, 5, 6, 310, 296, 298, 306]
  | 15 => [1, 322, 3, 4, 5, 6, 313, 299, 301, 309]
  | 16 => [1, 325, 3, 4, 5, 6, 316, 302, 304, 312]
  | 17 => [1, 328, 3, 4, 5, 6, 319, 305, 307, 315]
  | 18 => [1, 304, 3, 4, 5, 6, 295, 281, 283, 291]
  | 19 => [1, 307, 3, 4, 5, 6, 298, 284, 286, 294]
  | 20 => [1, 310, 3, 4, 5, 6, 301, 287, 289, 297]
  | 21 => [1, 313, 3, 4, 5, 6, 304, 290, 292, 300]
  | 22 => [1, 316, 3, 4, 5, 6, 307, 293, 295, 303]
  | 23 => [1, 319, 3, 4, 5, 6, 310, 296, 298, 306]
  | 24 => [1, 325, 3, 4, 5, 6, 316, 301, 304, 312]
  | 25 => [1, 328, 3, 4, 5, 6, 319, 304, 307, 315]
  | 26 => [1, 331, 3, 4, 5, 6, 322, 307, 310, 318]
  | 27 => [1, 307, 3, 4, 5, 6, 298, 283, 286, 294]
  | _ => [1, 310, 3, 4, 5, 6, 301, 286, 289, 297]
def yH : Nat → List Nat
  | 0 => [147]
  | 1 => [186]
  | 2 => [186]
  | 3 => [234]
  | 4 => [234]
  | 5 => [234]
  | 6 => [234]
  | 7 => [234]
  | 8 => [286]
  | 9 => [286]
  | 10 => [286]
  | 11 => [286]
  | 12 => [286]
  | 13 => [286]
  | 14 => [286]
  | 15 => [286]
  | 16 => [286]
  | 17 => [342]
  | 18 => [342]
  | 19 => [342]
  | 20 => [342]
  | 21 => [342]
  | 22 => [342]
  | 23 => [342]
  | 24 => [342]
  | 25 => [342]
  | 26 => [342]
  | 27 => [342]
  | 28 => [342]
  | _ => [342]
def yR : Nat → List Nat
  | 0 => [62]
  | 1 => [84, 70, 72, 79]
  | 2 => [106, 83, 87, 101]
  | 3 => [128, 96, 102, 123]
  | 4 => [136, 102, 110, 131]
  | 5 => [144, 108, 118, 139]
  | 6 => [152, 114, 126, 147]
  | 7 => [160, 120, 134, 155]
  | 8 => [168, 126, 142, 163]
  | 9 => [176, 132, 150, 171]
  | 10 => [180, 134, 154, 175]
  | 11 => [184, 136, 158, 179]
  | 12 => [188, 138, 162, 183]
  | 13 => [192, 140, 166, 187]
  | 14 => [196, 142, 170, 191]
  | 15 => [200, 144, 174, 195]
  | 16 => [204, 146, 178, 199]
  | 17 => [208, 148, 182, 203]
  | 18 => [212, 150, 186, 207]
  | 19 => [216, 152, 190, 211]
  | 20 => [220, 154, 194, 215]
  | 21 => [224, 156, 198, 219]
  | 22 => [228, 158, 202, 223]
  | 23 => [232, 160, 206, 227]
  | 24 => [236, 162, 210, 231]
  | 25 => [236, 162, 210, 231]
  | 26 => [236, 162, 210, 231]
  | 27 => [236, 162, 210, 231]
  | 28 => [236, 162, 210, 231]
  | _ => [236, 162, 210, 231]
def yW : Nat → List Nat
  | 0 => [253]
  | 1 => [304]
  | 2 => [310]
  | 3 => [316]
  | 4 => [319]
  | 5 => [322]
  | 6 => [325]
  | 7 => [328]
  | 8 => [331]
  | 9 => [334]
  | 10 => [334]
  | 11 => [334]
  | 12 => [334]
  | 13 => [334]
  | 14 => [334]
  | 15 => [334]
  | 16 => [334]
  | 17 => [334]
  | 18 => [334]
  | 19 => [334]
  | 20 => [334]
  | 21 => [334]
  | 22 => [334]
  | 23 => [334]
  | 24 => [337]
  | 25 => [337]
  | 26 => [337]
  | 27 => [337]
  | 28 => [337]
  | _ => [337]
noncomputable def yA (c : Nat) : List Nat := (List.range (blY c).length).map fun i => i + 1
noncomputable def putR (c : Nat) : Bool := runB 10 [.ptr .z 0, .agg (askH c)] (blH c) (blH (c + 1)) (kL (yP c)) (.tup [])
noncomputable def synR (c : Nat) : Bool := runB 13 [.ptr .z 0] (blH c) (blY c) (kL (yA c)) (lsV K.z.o 24 c)
noncomputable def hanR (c : Nat) : Bool := runB 16 [.ptr .z 0, .int .i64 1, .int .i64 1] (blY c) [.row true 1 ((pH c).map fun p => [.str p])] (kL (yH c)) (.tup [.slice .z 0 (pH c).length 1 false (pH c).length, .bool true])
noncomputable def kB (l : List Nat) : List K := [K.z, K.z.o, K.z.i, K.z.o.o, K.z.o.i, K.z.i.o] ++ kL l
theorem kB_ok (l : List Nat) : ∀ i, i < 6 → (kB l)[i]? = some (hp0.key i)
  | 0, _ => rfl
  | 1, _ => rfl
  | 2, _ => rfl
  | 3, _ => rfl
  | 4, _ => rfl
  | 5, _ => rfl
  | n + 6, h => absurd h (by omega)
/-- a run in which a number stands open: its answer and its first block are told by themselves -/
noncomputable def pickRun (r : Option (AV × Bool × List (Option Blk))) (w : List (Option Blk)) : AV × Option (Option Blk) × Bool := match r with
  | some (x, b, o :: l) => (x, some o, an2 b (eqOBs l w))
  | _ => (.nils, none, false)
def RunD (f : FuncId) (args : List AV) (bl bl' : List Blk) (sel : List K) (v1 : AV) : Prop :=
  (fBlks bl fun b => fBlks bl' fun b' => fAVs args fun a => fKs sel fun s => chkB b b' s a v1) = true ∧
  (fBlks bl fun b => fBlks bl' fun b' => fAVs args fun a => fKs sel fun s => pickRun (runL (evFn Tryz.prog XC0 100000 f a (hp0.ext b)) s b') (wantL s b').tail) = (v1.ren (rk sel .z), (wantL sel bl').head?, true)
theorem RunD.ok {f : FuncId} {args : List AV} {bl bl' : List Blk} {sel : List K} {v1 : AV} (h : RunD f args bl bl' sel v1) :
    chkB bl bl' sel args v1 = true ∧ runL (evFn Tryz.prog XC0 100000 f args (hp0.ext bl)) sel bl' = some (v1.ren (rk sel .z), true, wantL sel bl') := by
  obtain ⟨h1, h2⟩ := h
  rw [fBlks_eq, fBlks_eq, fAVs_eq, fKs_eq] at h1 h2
  refine ⟨h1, ?_⟩
  unfold pickRun at h2
  split at h2
  · rename_i x b o l he
    rw [he]
    simp only [Prod.mk.injEq] at h2
    obtain ⟨rfl, q2, q3⟩ := h2
    obtain ⟨rfl, q4⟩ := an2_t q3
    have q4 := eqOBs_t q4
    cases hw : wantL sel bl' with
    | nil => rw [hw] at q2; cases q2
    | cons y w =>
      rw [hw] at q2 q4
      cases q2
      rw [q4]; rfl
  · simp only [Prod.mk.injEq] at h2
    exact absurd h2.2.2 (by decide)
def recR (c n : Nat) : Prop := RunD 28 [.ptr .z 0, .agg (fLN (pH c).flatten instR)] (nP (.slice K.z.o 0 (n + 1) 24 false (n + 1)) :: .dead :: tB) (nP (.slice K.z.o 0 (n + 1) 24 false (n + 1)) :: .dead :: tR c) (kB (yR c)) (.tup [.agg zA, .nili])
noncomputable def yS (c : Nat) : List Nat := (List.range ((tT c).length - 4)).map fun i => i + 7
def sy2R (c n : Nat) : Prop := RunD 13 [.ptr .z 0] (nP (.slice K.z.o 0 (n + 1) 24 false (n + 1)) :: .dead :: tR c) (nP .nils :: .dead :: tT c) (kB (yS c)) (.slice K.z.o 0 (n + 1) 24 false (n + 1))
noncomputable def pu2R (c : Nat) : Bool := runB 10 [.ptr .z 0, .agg askZ] (nP .nils :: .dead :: tT c) (blW saidZ (tW c)) (K.z :: (kL (yW c) ++ [K.z.i, K.z.o.o, K.z.o.i, K.z.i.o])) (.tup [])
noncomputable def sy3R (c : Nat) : Bool := runB 13 [.ptr .z 0] (blW saidZ (tW c)) [.row true 24 [saidZ]] [K.z.o] (.slice .z 0 1 24 false 1)
end Go.Proofs
