/- What a function hands back that collects rows. -/
import Derived.Test.YtiadcabmonbgiaaEvAD
set_option linter.all false
namespace Go.Ev
variable {P : Program} {H : Heap}
/-- nil as long as nothing was found, else a new block -/
def outV (k : K) (esz n : Nat) : AV := match n with | 0 => .nils | n + 1 => .slice k 0 (n + 1) esz false (n + 1)
def outB (esz : Nat) (xs : List (List AV)) : Blk := match xs with | [] => .dead | x :: xs => .row true esz (x :: xs)
def outL (esz : Nat) (xs : List (List AV)) : List Blk := match xs with | [] => [] | x :: xs => [.row true esz (x :: xs)]
@[go_sem] theorem outV_zero (k : K) (esz : Nat) : outV k esz 0 = .nils := rfl
@[go_sem] theorem outV_succ (k : K) (esz n : Nat) : outV k esz (n + 1) = .slice k 0 (n + 1) esz false (n + 1) := rfl
@[go_sem] theorem outB_nil (esz : Nat) : outB esz [] = .dead := rfl
@[go_sem] theorem outB_cons (esz : Nat) (x xs) : outB esz (x :: xs) = .row true esz (x :: xs) := rfl
theorem outV_pos {k : K} {esz n : Nat} (h : 0 < n) : outV k esz n = .slice k 0 n esz false n := by cases n with | zero => exact absurd h (Nat.lt_irrefl 0) | succ n => rfl
theorem outL_pos {esz : Nat} {xs : List (List AV)} (h : 0 < xs.length) : outL esz xs = [.row true esz xs] := by cases xs with | nil => exact absurd h (Nat.lt_irrefl 0) | cons x xs => rfl
@[go_sem] theorem outL_nil (esz : Nat) : outL esz [] = [] := rfl
theorem out_arr (esz : Nat) (xs : List (List AV)) : Arr (H.ext (outL esz xs)) esz (outV H.nx esz xs.length) xs := by
  cases xs with
  | nil => exact .inl ⟨rfl, rfl⟩
  | cons x xs =>
    refine .inr ⟨H.nx, 0, false, xs.length + 1, rfl, ?_, fun _ => ⟨0, true, x :: xs, by simp, ?_, by simp⟩⟩
    · rw [Heap.nx_ext, Heap.toNat_key]; simp [outL]
    · rw [← Heap.key_zero, Heap.get_ext_key _ _ _ (by simp [outL])]; rfl
theorem FnOk.dropOld {f : FuncId} {args : List AV} {R : AV → Prop} (h : FnOk P f args H fun v G => R v ∧ ∃ l, G = H.ext l) (hr : ∀ v, R v → ∀ top σ, v.ren (rho H top σ) = v) : FnOk P f args H fun v G => R v ∧ G = H := by
  refine h.wk ?_
  rintro v G ⟨hv, l, rfl⟩
  exact ⟨l, [], [], v, rfl, (hr v hv _ _).symm, rfl, List.nodup_nil, by simp, hv, Heap.ext_nil H⟩
theorem FnOk.dropV {f : FuncId} {args : List AV} {esz : Nat} {xs : List (List AV)} (hx : ∀ ρ, xs.map (AV.rens ρ) = xs)
    (h : FnOk P f args H fun v G => ∃ l i, v = outV (H.key i) esz xs.length ∧ G = H.ext l ∧ l[i]? = some (outB esz xs)) :
    FnOk P f args H fun v G => v = outV H.nx esz xs.length ∧ G = H.ext (outL esz xs) := by
  cases xs with
  | nil =>
    refine (FnOk.drop (R := fun v => v = .nils) (h.mono ?_) ?_).mono ?_
    · rintro v G ⟨l, i, rfl, rfl, _⟩; exact ⟨rfl, _, rfl⟩
    · rintro v rfl ρ; rw [AV.ren]
    · rintro v G ⟨rfl, rfl⟩; exact ⟨rfl, (Heap.ext_nil _).symm⟩
  | cons x xs =>
    refine (FnOk.drop1 (esz := esz) (n := xs.length + 1) (ex := false) (cap := xs.length + 1) (b := .row true esz (x :: xs)) (h.mono ?_) ?_)
    · rintro v G ⟨l, i, rfl, rfl, hl⟩; exact ⟨l, i, rfl, rfl, hl⟩
    · intro ρ
      show Blk.row true esz ((x :: xs).map (AV.rens ρ)) = _
      rw [hx]
theorem takeN_lt {α : Type} {xs : List α} {N : Nat} (c : α) (h : (xs.take N).length < N) : (xs ++ [c]).take N = xs.take N ++ [c] := by
  have hx : xs.length < N := by rw [List.length_take] at h; omega
  rw [List.take_of_length_le (by simp; omega), List.take_of_length_le (by omega)]
theorem takeN_ge {α : Type} {xs : List α} {N : Nat} (ys : List α) (h : ¬ (xs.take N).length < N) : (xs ++ ys).take N = xs.take N := by
  have hx : N ≤ xs.length := by rw [List.length_take] at h; omega
  rw [List.take_append_of_le_length hx]
end Go.Ev
