/- index: what the functions answer, as an oracle. -/
import Derived.Test.YtiadcabmonbgiaaX2Z
set_option linter.all false
set_option maxRecDepth 100000
namespace Go.Proofs
open Go Go.Ev
variable {H : Heap}
/-- one new block, that of what is handed back (or none) -/
theorem padV {P : Program} {f : FuncId} {args : List AV} {esz : Nat} {xs : List (List AV)} (hx : ∀ ρ, xs.map (AV.rens ρ) = xs)
    (h : FnOk P f args H fun v G => v = outV H.nx esz xs.length ∧ G = H.ext (outL esz xs)) : FnOk P f args H fun v G => v = outV H.nx esz xs.length ∧ G = H.ext [outB esz xs] := by
  cases xs with
  | nil =>
    refine h.wk ?_
    rintro v G ⟨rfl, rfl⟩
    exact ⟨[], [.dead], [0], .nils, rfl, rfl, rfl, by decide, by simp [Blk.live], rfl, rfl⟩
  | cons x xs => exact h
theorem outB_arr {L : List Blk} {esz i : Nat} {xs : List (List AV)} (h : L[i]? = some (outB esz xs)) : Arr (H.ext L) esz (outV (H.key i) esz xs.length) xs := by
  cases xs with
  | nil => exact .inl ⟨rfl, rfl⟩
  | cons x xs =>
    have hi := (List.getElem?_eq_some_iff.1 h).1
    refine .inr ⟨H.key i, 0, false, xs.length + 1, rfl, ?_, fun _ => ⟨0, true, x :: xs, by simp, ?_, by simp⟩⟩
    · rw [Heap.nx_ext, Heap.toNat_key, Heap.toNat_key]; omega
    · rw [Heap.get_ext_key _ _ _ hi, h]; rfl
def frB (v : AV) (esz : Nat) (xs : List (List AV)) : Blk := match v with | .nils => outB esz xs | _ => .row true esz xs
theorem frB_arr {v : AV} {L : List Blk} {esz i : Nat} {xs : List (List AV)} (h : L[i]? = some (frB v esz xs)) : Arr (H.ext L) esz (frV v (H.key i) esz xs.length) xs := by
  by_cases hv : v = .nils
  · subst hv; exact outB_arr h
  · have e1 : frB v esz xs = .row true esz xs := by cases v <;> first | rfl | exact absurd rfl hv
    have e2 : frV v (H.key i) esz xs.length = .slice (H.key i) 0 xs.length esz false xs.length := by cases v <;> first | rfl | exact absurd rfl hv
    rw [e1] at h; rw [e2]
    have hi := (List.getElem?_eq_some_iff.1 h).1
    refine .inr ⟨H.key i, 0, false, xs.length, rfl, ?_, fun _ => ⟨0, true, xs, by simp, ?_, by simp⟩⟩
    · rw [Heap.nx_ext, Heap.toNat_key, Heap.toNat_key]; omega
    · rw [Heap.get_ext_key _ _ _ hi, h]
theorem padF {P : Program} {f : FuncId} {args : List AV} {v0 : AV} {esz : Nat} {xs : List (List AV)} (hx : ∀ ρ, xs.map (AV.rens ρ) = xs)
    (h : FnOk P f args H fun v G => v = frV v0 H.nx esz xs.length ∧ G = H.ext (frL v0 esz xs)) : FnOk P f args H fun v G => v = frV v0 H.nx esz xs.length ∧ G = H.ext [frB v0 esz xs] := by
  by_cases hv : v0 = .nils
  · subst hv; exact padV hx h
  · have e1 : frL v0 esz xs = [.row true esz xs] := by cases v0 <;> first | rfl | exact absurd rfl hv
    have e2 : frB v0 esz xs = .row true esz xs := by cases v0 <;> first | rfl | exact absurd rfl hv
    rw [e1] at h; rw [e2]
    exact h
theorem padV' {P : Program} {f : FuncId} {args : List AV} {esz n : Nat} {xs : List (List AV)} (hn : xs.length = n) (hx : ∀ ρ, xs.map (AV.rens ρ) = xs)
    (h : FnOk P f args H fun v G => v = outV H.nx esz n ∧ G = H.ext (outL esz xs)) : FnOk P f args H fun v G => v = outV H.nx esz n ∧ G = H.ext [outB esz xs] := by subst hn; exact padV hx h
theorem padF' {P : Program} {f : FuncId} {args : List AV} {v0 : AV} {esz n : Nat} {xs : List (List AV)} (hn : xs.length = n) (hx : ∀ ρ, xs.map (AV.rens ρ) = xs)
    (h : FnOk P f args H fun v G => v = frV v0 H.nx esz n ∧ G = H.ext (frL v0 esz xs)) : FnOk P f args H fun v G => v = frV v0 H.nx esz n ∧ G = H.ext [frB v0 esz xs] := by subst hn; exact padF hx h
theorem enc_inj : ∀ {a b : Cell}, a.enc = b.enc → a = b := by
  rintro ⟨a1, a2, a3, a4, a5⟩ ⟨b1, b2, b3, b4, b5⟩ h
  simp [Cell.enc] at h
  obtain ⟨rfl, rfl, rfl, rfl, rfl⟩ := h
  rfl
theorem arr_one {v : AV} {esz : Nat} {xs ys : List (List AV)} (hx : Arr H esz v xs) (hy : Arr H esz v ys) (he : 0 < esz) : xs = ys := by
  rcases hx with ⟨rfl, rfl⟩ | ⟨k, off, ex, cap, rfl, _, h1⟩
  · rcases hy with ⟨_, rfl⟩ | ⟨_, _, _, _, h, _⟩
    · rfl
    · cases h
  · rcases hy with ⟨h, _⟩ | ⟨k', off', ex', cap', h, _, h2⟩
    · cases h
    · injection h with e1 e2 e3 e4 e5 e6
      subst e1 e2
      by_cases hn : xs = []
      · subst hn
        exact (List.length_eq_zero_iff.1 (by rw [← e3]; rfl)).symm
      · have hn' : ys ≠ [] := by intro h; subst h; exact hn (List.length_eq_zero_iff.1 (by rw [e3]; rfl))
        obtain ⟨r, wr, rows, e7, e8, e9⟩ := h1 hn
        obtain ⟨r', wr', rows', f7, f8, f9⟩ := h2 hn'
        rw [e8] at f8; cases f8
        have : r = r' := by
          have := e7.symm.trans f7
          exact Nat.eq_of_mul_eq_mul_right he this
        subst this
        rw [← e9, ← f9, e3]
/-- the cells that a slice holds -/
noncomputable def cellsOf (H : Heap) (v : AV) : Option (List Cell) := open Classical in if h : ∃ l : List Cell, Arr H 5 v (l.map Cell.enc) ∧ l.length < 4294967295 then some (Classical.choose h) else none
theorem cellsOf_eq {v : AV} {l : List Cell} (h : Arr H 5 v (l.map Cell.enc)) (hl : l.length < 4294967295) : cellsOf H v = some l := by
  unfold cellsOf
  have hex : ∃ l : List Cell, Arr H 5 v (l.map Cell.enc) ∧ l.length < 4294967295 := ⟨l, h, hl⟩
  rw [dif_pos hex]
  congr 1
  have := arr_one (Classical.choose_spec hex).1 h (by decide)
  exact List.map_inj_right (fun _ _ => enc_inj) |>.1 this
theorem cellsOf_spec {v : AV} {l : List Cell} (h : cellsOf H v = some l) : Arr H 5 v (l.map Cell.enc) ∧ l.length < 4294967295 := by
  unfold cellsOf at h
  split at h
  · rename_i hex
    cases h
    exact Classical.choose_spec hex
  · cases h
noncomputable def oc (H : Heap) (v : AV) (c : List Cell → RC) : RC := match cellsOf H v with | some l => c l | none => .fail
theorem oc_eq {v : AV} {l : List Cell} (h : Arr H 5 v (l.map Cell.enc)) (hl : l.length < 4294967295) (c : List Cell → RC) : oc H v c = c l := by
  unfold oc; rw [cellsOf_eq h hl]
theorem oc_ok {v r : AV} {c : List Cell → RC} {G : Heap} (h : oc H v c = .ok r G) : ∃ l : List Cell, Arr H 5 v (l.map Cell.enc) ∧ l.length < 4294967295 ∧ c l = .ok r G := by
  unfold oc at h
  split at h
  · rename_i l hl
    exact ⟨l, (cellsOf_spec hl).1, (cellsOf_spec hl).2, h⟩
  · cases h
noncomputable def EI : FuncId → List AV → Heap → RC
  | 15, [v, .agg [.str f, .str t], .int .i64 n], H => oc H v fun l => .ok (outV H.nx 3 (rowsL f t n l).length) (H.ext [outB 3 ((rowsL f t n l).map Cell.row)])
  | 16, [v, .agg [.str f, .str t], .int .i64 n], H => oc H v fun l => .ok (outV H.nx 3 (rowsL f t n l).length) (H.ext [outB 3 ((rowsL f t n l).map Cell.row)])
  | 17, [v], H => oc H v fun l => .ok (.bool (decide (isIdx l))) H
  | 18, [v], H => oc H v fun l => .ok (.bool (decide (isIdx l))) H
  | 19, [v, w], H => oc H v fun l => oc H w fun m => .ok (.bool (decide (l = m))) H
  | 20, [v, .agg [.str f, .str t]], H => oc H v fun l => .ok (outV H.nx 5 (withinL f t l).length) (H.ext [outB 5 ((withinL f t l).map Cell.enc)])
  | 21, [v, .agg [.str f, .str t]], H => oc H v fun l => .ok (outV H.nx 5 (withinL f t l).length) (H.ext [outB 5 ((withinL f t l).map Cell.enc)])
  | 22, [v, .agg [.str k, .str x, .int .i64 n, .bool d, .int .i64 f]], H => oc H v fun l => .ok (frV v H.nx 5 (withC l ⟨k, x, n, d, f⟩).length) (H.ext [frB v 5 ((withC l ⟨k, x, n, d, f⟩).map Cell.enc)])
  | 23, [v, .agg [.str k, .str x, .int .i64 n, .bool d, .int .i64 f]], H => oc H v fun l => if cellIs ⟨k, x, n, d, f⟩ then .ok (outV H.nx 5 (refW l ⟨k, x, n, d, f⟩).length) (H.ext [outB 5 ((refW l ⟨k, x, n, d, f⟩).map Cell.enc)]) else .ok v H
  | 24, [.agg [.str k, .str v, .int .i64 n, .bool d, .int .i64 f]], H => .ok (.bool (decide (cellIs ⟨k, v, n, d, f⟩))) H
  | _, _, _ => .fail
theorem good_EI : Good Try.prog EI := by
  intro f args H r G he φ w args' ha hw
  refine (?_ : FnOk Try.prog f args H fun v' G' => v' = r ∧ G' = G).one φ w args' ha hw
  unfold EI at he
  split at he
  · obtain ⟨l, h1, h2, h3⟩ := oc_ok he
    cases h3
    exact padV' (List.length_map ..) (Cell.map_row · _) (f15_ok h1 (by omega) _ _ _)
  · obtain ⟨l, h1, h2, h3⟩ := oc_ok he
    cases h3
    exact padV' (List.length_map ..) (Cell.map_row · _) (f16_ok h1 (by omega) _ _ _)
  · obtain ⟨l, h1, h2, h3⟩ := oc_ok he
    cases h3
    exact f17_ok h1 (by omega)
  · obtain ⟨l, h1, h2, h3⟩ := oc_ok he
    cases h3
    exact f18_ok h1 (by omega)
  · obtain ⟨l, h1, h2, h3⟩ := oc_ok he
    obtain ⟨m, h4, h5, h6⟩ := oc_ok h3
    cases h6
    exact f19_ok h1 h4 (by omega) (by omega)
  · obtain ⟨l, h1, h2, h3⟩ := oc_ok he
    cases h3
    exact padV' (List.length_map ..) (Cell.map_rens · _) (f20_ok h1 (by omega) _ _)
  · obtain ⟨l, h1, h2, h3⟩ := oc_ok he
    cases h3
    exact padV' (List.length_map ..) (Cell.map_rens · _) (f21_ok h1 (by omega) _ _)
  · obtain ⟨l, h1, h2, h3⟩ := oc_ok he
    cases h3
    exact padF' (List.length_map ..) (Cell.map_rens · _) (f22_ok h1 h2 ⟨_, _, _, _, _⟩)
  · obtain ⟨l, h1, h2, h3⟩ := oc_ok he
    split at h3
    · rename_i hc
      cases h3
      exact padV' (List.length_map ..) (Cell.map_rens · _) (f23_yes h1 h2 hc)
    · rename_i hc
      cases h3
      exact f23_no h1 hc
  · cases he
    exact f24_ok ⟨_, _, _, _, _⟩
  · cases he
section
variable {v : AV} {l : List Cell} (h : Arr H 5 v (l.map Cell.enc)) (hl : l.length < 4294967295)
include h hl
theorem e15 (f t : List Nat) (n : Int) : EI 15 [v, .agg [.str f, .str t], .int .i64 n] H = .ok (outV H.nx 3 (rowsL f t n l).length) (H.ext [outB 3 ((rowsL f t n l).map Cell.row)]) := oc_eq h hl _
theorem e16 (f t : List Nat) (n : Int) : EI 16 [v, .agg [.str f, .str t], .int .i64 n] H = .ok (outV H.nx 3 (rowsL f t n l).length) (H.ext [outB 3 ((rowsL f t n l).map Cell.row)]) := oc_eq h hl _
theorem e17 : EI 17 [v] H = .ok (.bool (decide (isIdx l))) H := oc_eq h hl _
theorem e18 : EI 18 [v] H = .ok (.bool (decide (isIdx l))) H := oc_eq h hl _
theorem e20 (f t : List Nat) : EI 20 [v, .agg [.str f, .str t]] H = .ok (outV H.nx 5 (withinL f t l).length) (H.ext [outB 5 ((withinL f t l).map Cell.enc)]) := oc_eq h hl _
theorem e21 (f t : List Nat) : EI 21 [v, .agg [.str f, .str t]] H = .ok (outV H.nx 5 (withinL f t l).length) (H.ext [outB 5 ((withinL f t l).map Cell.enc)]) := oc_eq h hl _
theorem e22 (c : Cell) : EI 22 [v, .agg [.str c.key, .str c.value, .int .i64 c.ver, .bool c.del, .int .i64 c.floor]] H = .ok (frV v H.nx 5 (withC l c).length) (H.ext [frB v 5 ((withC l c).map Cell.enc)]) := oc_eq h hl _
theorem e23 (c : Cell) : EI 23 [v, .agg [.str c.key, .str c.value, .int .i64 c.ver, .bool c.del, .int .i64 c.floor]] H = if cellIs c then .ok (outV H.nx 5 (refW l c).length) (H.ext [outB 5 ((refW l c).map Cell.enc)]) else .ok v H := oc_eq h hl _
end
theorem e19 {v w : AV} {l m : List Cell} (h : Arr H 5 v (l.map Cell.enc)) (hl : l.length < 4294967295) (g : Arr H 5 w (m.map Cell.enc)) (hm : m.length < 4294967295) : EI 19 [v, w] H = .ok (.bool (decide (l = m))) H :=
  (oc_eq h hl _).trans (oc_eq g hm _)
theorem e24' (k v : List Nat) (n : Int) (d : Bool) (f : Int) (H : Heap) : EI 24 [.agg [.str k, .str v, .int .i64 n, .bool d, .int .i64 f]] H = .ok (.bool (decide (cellIs ⟨k, v, n, d, f⟩))) H := rfl
end Go.Proofs
