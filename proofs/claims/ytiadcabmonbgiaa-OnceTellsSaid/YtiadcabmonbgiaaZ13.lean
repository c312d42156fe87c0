/- What a function hands back that collects rows. -/
import Derived.Test.YtiadcabmonbgiaaZ12
set_option linter.all false
namespace Go.Ev
variable {P : Program} {H : Heap}
/-- nil as long as nothing was found, else a new block -/
def outV (k : K) (esz n : Nat) : AV := match n with | 0 => .nils | n + 1 => .slice k 0 (n + 1) esz false (n + 1)
def outB (esz : Nat) (xs : List (List AV)) : Blk := match xs with | [] => .dead | x :: xs => .row true esz (x :: xs)
def outL (esz : Nat) (xs : List (List AV)) : List Blk := match xs with | [] => [] | x :: xs => [.row true esz (x :: xs)]
@[go_sem] theorem outV_zero (k : K) (esz : Nat) : outV k esz 0 = .nils := rfl
@[go_sem] theorem outV_succ (k : K) (esz n : Nat) : outV k esz (n + 1) = .slice k 0 (n + 1) esz false (n + 1) := rfl
@[go_sem] theorem outB_nil (esz : Nat) : outB esz [] = .dead := rfl
@[go_sem] theorem outB_cons (esz : Nat) (x xs) : outB esz (x :: xs) = .row true esz (x :: xs) := rfl
theorem outV_pos {k : K} {esz n : Nat} (h : 0 < n) : outV k esz n = .slice k 0 n esz false n := by cases n with | zero => exact absurd h (Nat.lt_irrefl 0) | succ n => rfl
theorem outL_pos {esz : Nat} {xs : List (List AV)} (h : 0 < xs.length) : outL esz xs = [.row true esz xs] := by cases xs with | nil => exact absurd h (Nat.lt_irrefl 0) | cons x xs => rfl
@[go_sem] theorem outL_nil (esz : Nat) : outL esz [] = [] := rfl
theorem out_arr (esz : Nat) (xs : List (List AV)) : Arr (H.ext (outL esz xs)) esz (outV H.nx esz xs.length) xs := by
  cases xs with
  | nil => exact .inl ⟨rfl, rfl⟩
  | cons x xs =>
    refine .inr ⟨H.nx, 0, false, xs.length + 1, rfl, ?_, fun _ => ⟨0, true, x :: xs, by simp, ?_, by simp⟩⟩
    · rw [Heap.nx_ext, Heap.toNat_key]; simp [outL]
    · rw [← Heap.key_zero, Heap.get_ext_key _ _ _ (by simp [outL])]; rfl
theorem FnOk.dropOld {f : FuncId} {args : List AV} {R : AV → Prop} (h : FnOk P f args H fun v G => R v ∧ ∃ l, G = H.ext l) (hr : ∀ v, R v → ∀ top σ, v.ren (rho H top σ) = v) : FnOk P f args H fun v G => R v ∧ G = H := by
  refine h.wk ?_
  rintro v G ⟨hv, l, rfl⟩
  exact ⟨l, [], [], v, rfl, (hr v hv _ _).symm, rfl, List.nodup_nil, by simp, hv, Heap.ext_nil H⟩
theorem FnOk.dropV {f : FuncId} {args : List AV} {esz : Nat} {xs : List (List AV)} (hx : ∀ ρ, xs.map (AV.rens ρ) = xs)
    (h : FnOk P f args H fun v G => ∃ l i, v = outV (H.key i) esz xs.length ∧ G = H.ext l ∧ l[i]? = some (outB esz xs)) :
    FnOk P f args H fun v G => v = outV H.nx esz xs.length ∧ G = H.ext (outL esz xs) := by
  cases xs with
  | nil =>
    refine (FnOk.drop (R := fun v => v = .nils) (h.mono ?_) ?_).mono ?_
    · rintro v G ⟨l, i, rfl, rfl, _⟩; exact ⟨rfl, _, rfl⟩
    · rintro v rfl ρ; rw [AV.ren]
    · rintro v G ⟨rfl, rfl⟩; exact ⟨rfl, (Heap.ext_nil _).symm⟩
  | cons x xs =>
    refine (FnOk.drop1 (esz := esz) (n := xs.length + 1) (ex := false) (cap := xs.length + 1) (b := .row true esz (x :: xs)) (h.mono ?_) ?_)
    · rintro v G ⟨l, i, rfl, rfl, hl⟩; exact ⟨l, i, rfl, rfl, hl⟩
    · intro ρ
      show Blk.row true esz ((x :: xs).map (AV.rens ρ)) = _
      rw [hx]
theorem takeN_lt {α : Type} {xs : List α} {N : Nat} (c : α) (h : (xs.take N).length < N) : (xs ++ [c]).take N = xs.take N ++ [c] := by
  have hx : xs.length < N := by rw [List.length_take] at h; omega
  rw [List.take_of_length_le (by simp; omega), List.take_of_length_le (by omega)]
theorem takeN_ge {α : Type} {xs : List α} {N : Nat} (ys : List α) (h : ¬ (xs.take N).length < N) : (xs ++ ys).take N = xs.take N := by
  have hx : N ≤ xs.length := by rw [List.length_take] at h; omega
  rw [List.take_append_of_le_length hx]
end Go.Ev
/- Conversions, as rules. -/

set_option linter.all false
namespace Go.Ev
@[go_sem] theorem convR_int (k : IntKind) (x : X) (T : Tr AV) (H : Heap) : convR (.int k) x T H = withX T x .fail fun v => asIntC v .fail fun _ n => wrapC k n fun n => .val (.int k n) H := rfl
@[go_sem] theorem convR_b2s (x : X) (T : Tr AV) (H : Heap) : convR .b2s x T H = withX T x .fail fun v => asSliceC v .fail (.val (.str []) H) fun k off len _ _ _ => loadC H k off len .fail fun l => bytesC l .fail fun ns => .val (.str ns) H := rfl
end Go.Ev
/- Slices that may be nil, handled as one: rules. -/

set_option linter.all false
namespace Go.Ev
variable {P : Program} {H : Heap}
theorem outV_ren' (ρ : K → K) (k : K) (e n : Nat) : AV.ren ρ (outV k e n) = outV (ρ k) e n := by
  cases n with
  | zero => show AV.ren ρ .nils = .nils; rw [AV.ren]
  | succ n => show AV.ren ρ (.slice k 0 (n + 1) e false (n + 1)) = .slice (ρ k) 0 (n + 1) e false (n + 1); rw [AV.ren]
theorem outB_ren' (ρ : K → K) {e : Nat} {xs : List (List AV)} (h : xs.map (AV.rens ρ) = xs) : Blk.ren ρ (outB e xs) = outB e xs := by
  cases xs with
  | nil => rfl
  | cons x xs => show Blk.row true e ((x :: xs).map (AV.rens ρ)) = Blk.row true e (x :: xs); rw [h]
theorem outB_pos {e : Nat} {xs : List (List AV)} (h : 0 < xs.length) : outB e xs = .row true e xs := by
  cases xs with
  | nil => exact absurd h (by decide)
  | cons x xs => rfl
theorem outB_snoc (e : Nat) (xs : List (List AV)) (y : List AV) : outB e (xs ++ [y]) = .row true e (xs ++ [y]) := outB_pos (by simp)
@[go_sem] theorem len_out (k : K) (e n : Nat) (G : Heap) : asSliceC (outV k e n) R1.fail (R1.val (AV.int IntKind.i64 0) G) (fun _ _ len _ _ _ => R1.val (AV.int IntKind.i64 (len : Int)) G) = R1.val (.int .i64 n) G := by
  cases n with
  | zero => rfl
  | succ n => rfl
theorem Arr.len {v : AV} {esz : Nat} {xs : List (List AV)} (h : Arr H esz v xs) (G : Heap) : asSliceC v R1.fail (R1.val (AV.int IntKind.i64 0) G) (fun _ _ len _ _ _ => R1.val (AV.int IntKind.i64 (len : Int)) G) = R1.val (.int .i64 xs.length) G := by
  rcases h.forms with ⟨rfl, rfl⟩ | ⟨k, off, ex, cap, rfl, _⟩ <;> rfl
theorem Arr.at {v : AV} {esz : Nat} {xs : List (List AV)} (hok : H.ok) (h : Arr H esz v xs) {j : Nat} (hj : j < xs.length) : ∃ k r ex cap wr rows, v = .slice k (r * esz) xs.length esz ex cap ∧ (∀ top σ, rho H top σ k = k) ∧ (∀ L, (H.ext L).get k = some (.row wr esz rows)) ∧ rows[r + j]? = some xs[j] := by
  obtain ⟨k, r, ex, cap, wr, rows, e, hk, hg, _, hat⟩ := h.pick hj
  exact ⟨k, r, ex, cap, wr, rows, e, fun _ _ => rho_old hk, Heap.get_ext_old hok hg, by rw [hat j hj, List.getElem?_eq_getElem hj]⟩
theorem bytesC_one {β : Type} {m : Nat} (h : m ≤ 255) (f : β) (c : List Nat → β) : bytesC [.int .u8 (m : Int)] f c = c [m] := by
  show bif' (Nat.beq (kn .u8) 4) (bif' (Nat.ble m 255) (c [m]) f) f = c [m]
  rw [show Nat.beq (kn .u8) 4 = true from rfl, bif_true, show Nat.ble m 255 = true by rw [Nat.ble_eq]; exact h, bif_true]
theorem wrap_u8 {m : Nat} (h : m ≤ 255) : IntKind.u8.wrap (m : Int) = m := wrap_nat .u8 m h
/-- one more put behind a list that may be none: the old block is let go -/
theorem appR_out {L : List Blk} {i j n esz bytes : Nat} {xs : List (List AV)} {y : List AV} {x z : X} {T : Tr AV} {wr ex : Bool} {cap : Nat} (hx : evX T x = some (outV (H.key i) esz n)) (hz : evX T z = some (.slice (H.key j) 0 1 esz ex cap))
    (hi : L[i]? = some (outB esz xs)) (hn : xs.length = n) (hj : L[j]? = some (.row wr esz [y])) (hb : okBig (n + 1) bytes = true) :
    appR esz bytes x z T (H.ext L) = .val (outV (H.key L.length) esz (n + 1)) (H.ext (L.set i .dead ++ [outB esz (xs ++ [y])])) := by
  have hxw : ∀ {f : R1} {c : AV → R1}, withX T x f c = c (outV (H.key i) esz n) := by intro f c; unfold withX; rw [hx]
  have hzw : ∀ {f : R1} {c : AV → R1}, withX T z f c = c (.slice (H.key j) 0 1 esz ex cap) := by intro f c; unfold withX; rw [hz]
  have hil := (List.getElem?_eq_some_iff.1 hi).1
  have hjl := (List.getElem?_eq_some_iff.1 hj).1
  have hb1 : (2 * (n + 1) + 192) * bytes ≤ 281474976710656 := by unfold okBig at hb; rwa [Nat.ble_eq] at hb
  unfold appR
  rw [hxw, hzw]
  cases xs with
  | nil =>
    obtain rfl : n = 0 := hn.symm
    have hset : L.set i .dead = L := by
      refine List.ext_getElem? fun m => ?_
      rw [List.getElem?_set]
      split
      · rename_i hm; subst hm; rw [hi]; first | rfl | (rw [if_pos hil]; rfl)
      · rfl
    simp only [go_sem, Heap.get_ext_key _ _ _ hjl, hj, List.drop_zero, List.take_succ_cons, List.take_zero, List.length_cons, List.length_nil, Nat.zero_mod, Nat.zero_div, Nat.reduceAdd, Nat.reduceSub, Nat.reduceMul, Nat.reduceDiv, Nat.reduceMod, Nat.reduceEqDiff, Nat.reduceLeDiff, Nat.reduceLT, reduceIte, hset, List.nil_append]
    rw [if_pos (by simpa using hb1)]
  | cons a xs =>
    subst hn
    rw [outV_pos (by simp)]
    simp only [go_sem, Heap.get_ext_key _ _ _ hjl, Heap.get_ext_key _ _ _ hil, hi, hj, List.drop_zero, List.take_succ_cons, List.take_zero, List.length_cons, List.length_nil, Nat.zero_mod, Nat.zero_div, Nat.reduceAdd, Nat.reduceSub, Nat.reduceMul, Nat.reduceDiv, Nat.reduceMod, Nat.reduceEqDiff, Nat.reduceLeDiff, Nat.reduceLT, reduceIte, List.take_length, List.cons_append]
    rw [if_pos (Nat.le_refl _), if_neg (by omega), if_pos (by simpa using hb1), Heap.setC_ext _ _ _ _ _ hil, Heap.addC_ext, List.length_set]
/-- an append whose operands are seen, left as it is -/
noncomputable def appQ (esz bytes : Nat) (a b : Option AV) (H : Heap) : R1 := match a, b with
  | some v, some w => appR esz bytes (.c v) (.c w) .lf H
  | _, _ => .fail
theorem appR_hide (esz bytes : Nat) (a b : K) (T : Tr AV) (H : Heap) : appR esz bytes (.t a) (.t b) T H = appQ esz bytes (T.get a) (T.get b) H := by
  unfold appR appQ
  simp only [withX_t, withX_c]
  cases T.get a <;> cases T.get b <;> rfl
theorem okBig_le {n bytes : Nat} (h : n ≤ 1000000000) (hb : bytes ≤ 1000) : okBig n bytes = true := by
  unfold okBig
  rw [Nat.ble_eq]
  exact Nat.le_trans (Nat.mul_le_mul (Nat.add_le_add (Nat.mul_le_mul (Nat.le_refl 2) h) (Nat.le_refl _)) hb) (by decide)
/-- the same, ahead of what is still to be done -/
theorem RW_app {E : FuncId → List AV → Heap → RC} {N : Nat} {k : List It} {Q : Ex → Tr AV → Heap → Prop} {d : Option K} {T' : Tr AV} {G : Heap} {L : List Blk} {esz bytes i j n : Nat} (xs : List (List AV)) (y : List AV) {wr ex : Bool} {cap : Nat}
    (hi : L[i]? = some (outB esz xs)) (hn : xs.length = n) (hj : L[j]? = some (.row wr esz [y])) (hb : okBig (n + 1) bytes = true)
    (h : WW P E N H k (putD T' d (outV (H.key L.length) esz (n + 1))) (H.ext (L.set i .dead ++ [outB esz (xs ++ [y])])) Q) : RW P E N H (appQ esz bytes (some (outV (H.key i) esz n)) (some (.slice (H.key j) 0 1 esz ex cap)) (H.ext L)) d k T' G Q := by
  show RW P E N H (appR esz bytes (.c (outV (H.key i) esz n)) (.c (.slice (H.key j) 0 1 esz ex cap)) .lf (H.ext L)) d k T' G Q
  rw [appR_out rfl rfl hi hn hj hb]
  exact h
/-- the blocks that are kept, one after the other -/
def WkB (l : List Blk) (ρ : K → K) : List Blk → List Nat → Prop
  | b :: bs, i :: σ => (b.live → l[i]? = some (b.ren ρ)) ∧ WkB l ρ bs σ
  | _, _ => True
@[go_sem] theorem WkB_nil (l : List Blk) (ρ : K → K) (σ : List Nat) : WkB l ρ [] σ = True := by cases σ <;> rfl
@[go_sem] theorem WkB_cons (l : List Blk) (ρ : K → K) (b bs i σ) : WkB l ρ (b :: bs) (i :: σ) = ((b.live → l[i]? = some (b.ren ρ)) ∧ WkB l ρ bs σ) := rfl
theorem WkB.all {l : List Blk} {ρ : K → K} : ∀ {bs : List Blk} {σ : List Nat}, WkB l ρ bs σ → ∀ p ∈ bs.zip σ, p.1.live → l[p.2]? = some (p.1.ren ρ)
  | [], _, _, p, hp => by simp at hp
  | _ :: _, [], _, p, hp => by simp at hp
  | b :: bs, i :: σ, h, p, hp => by
    rw [List.zip_cons_cons, List.mem_cons] at hp
    rcases hp with rfl | hp
    · exact h.1
    · exact WkB.all h.2 p hp
theorem Wk.of {H : Heap} {T : Tr AV} {l : List Blk} {ts : List (K × AV)} {l2 : List Blk} {σ : List Nat} (h1 : l2.length = σ.length) (h2 : σ.Nodup) (h3 : ∀ p ∈ ts, T.get p.1 = some (p.2.ren (rho H l.length σ))) (h4 : WkB l (rho H l.length σ) l2 σ) : Wk H T l ts l2 σ := .mk' h1 h2 h3 h4.all
end Go.Ev
/- Clone and Insert at an empty slice. -/

set_option linter.all false
namespace Go.Ev
variable {P : Program} {H : Heap}
theorem clone_zero {f : FuncId} {esz bytes : Nat} {zero : List AV} (hf : CloFn P f esz bytes zero) {k : K} {off : Nat} {ex : Bool} {cap : Nat} :
    FnOk P f [.slice k off 0 esz ex cap] H fun v G => v = .slice H.nx 0 0 esz true 0 ∧ G = H.ext [.row true esz []] := by
  obtain ⟨fn, h1, h2, h3⟩ := hf.fn
  have hpos := hf.pos
  refine FnOk.of_WW h1 rfl h2 h3 E0 good_E0 ?_
  simp only [go_sem, cloCC, List.replicate_zero, Heap.key_zero, Nat.reduceAdd, Nat.reduceSub, Nat.reduceMul, Nat.reduceDiv, Nat.reduceMod, Nat.reduceEqDiff, Nat.reduceLeDiff, Nat.reduceLT, Int.reduceLT, Int.reduceLE, Int.reduceEq, reduceIte, reduceCtorEq]
theorem insert_zero {f : FuncId} {esz bytes : Nat} {zero : List AV} (hf : InsFn P f esz bytes zero) {kv k : K} {wr : Bool} {x : List AV} (hv : H.get kv = some (.row wr esz [x])) (hg : H.get k = some (.row true esz [])) (hb : 194 * bytes ≤ 281474976710656) :
    FnOk P f [.slice k 0 0 esz true 0, .int .i64 0, .slice kv 0 1 esz true 1] H fun v G => v = .slice H.nx 0 1 esz false 1 ∧ G = H.ext [.row true esz [x]] := by
  obtain ⟨fn, ov, rr, h1, h2, h3, h4, h5⟩ := hf.fn
  have hpos := hf.pos
  refine FnOk.assume fun hok => ?_
  have hgk := Heap.get_ext_old hok hg
  have hgv := Heap.get_ext_old hok hv
  refine FnOk.of_WW h1 rfl h2 h3 E0 good_E0 ?_
  simp only [go_sem, insCC, hgk, hgv, hb, Nat.zero_mod, Nat.zero_div, Nat.zero_le, Nat.reduceAdd, Nat.reduceSub, Nat.reduceMul, Nat.reduceDiv, Nat.reduceMod, Nat.reduceEqDiff, Nat.reduceLeDiff, Nat.reduceLT, Int.reduceLT, Int.reduceLE, Int.reduceEq, Int.reduceToNat, reduceIte, reduceCtorEq, Heap.key_zero]
end Go.Ev
/- A slice of one's own: nil, empty, or with elements; what makes one, what puts one in. -/


set_option linter.all false
namespace Go.Ev
variable {P : Program} {H : Heap}
/-- a slice of one's own: an empty one is nil, or has room for nothing -/
def zV (z : Bool) (k : K) (esz n : Nat) : AV := match n with
  | 0 => if z then .nils else .slice k 0 0 esz true 0
  | n + 1 => .slice k 0 (n + 1) esz false (n + 1)
def zB (z : Bool) (esz : Nat) (xs : List (List AV)) : Blk := match xs with
  | [] => if z then .dead else .row true esz []
  | x :: xs => .row true esz (x :: xs)
theorem zV_t (k : K) (esz n : Nat) : zV true k esz n = outV k esz n := by cases n <;> rfl
theorem zB_t (esz : Nat) (xs : List (List AV)) : zB true esz xs = outB esz xs := by cases xs <;> rfl
theorem zV_pos {z : Bool} {k : K} {esz n : Nat} (h : 0 < n) : zV z k esz n = .slice k 0 n esz false n := by
  cases n with
  | zero => exact absurd h (by decide)
  | succ n => rfl
theorem zB_pos {z : Bool} {esz : Nat} {xs : List (List AV)} (h : 0 < xs.length) : zB z esz xs = .row true esz xs := by
  cases xs with
  | nil => exact absurd h (by decide)
  | cons x xs => rfl
theorem zV_ren (ρ : K → K) (z : Bool) (k : K) (e n : Nat) : AV.ren ρ (zV z k e n) = zV z (ρ k) e n := by
  cases n with
  | zero => cases z <;> (show AV.ren ρ _ = _) <;> simp only [zV, AV.ren, if_true, Bool.false_eq_true, if_false]
  | succ n => show AV.ren ρ (.slice k 0 (n + 1) e false (n + 1)) = .slice (ρ k) 0 (n + 1) e false (n + 1); rw [AV.ren]
theorem zB_ren (ρ : K → K) {z : Bool} {e : Nat} {xs : List (List AV)} (h : xs.map (AV.rens ρ) = xs) : Blk.ren ρ (zB z e xs) = zB z e xs := by
  cases xs with
  | nil => cases z <;> rfl
  | cons x xs => show Blk.row true e ((x :: xs).map (AV.rens ρ)) = Blk.row true e (x :: xs); rw [h]
@[go_sem] theorem len_z (z : Bool) (k : K) (e n : Nat) (G : Heap) : asSliceC (zV z k e n) R1.fail (R1.val (AV.int IntKind.i64 0) G) (fun _ _ len _ _ _ => R1.val (AV.int IntKind.i64 (len : Int)) G) = R1.val (.int .i64 n) G := by
  cases n with
  | zero => cases z <;> rfl
  | succ n => rfl
theorem zB_arr {z : Bool} {L : List Blk} {esz i : Nat} {xs : List (List AV)} (h : L[i]? = some (zB z esz xs)) : Arr (H.ext L) esz (zV z (H.key i) esz xs.length) xs := by
  have hi := (List.getElem?_eq_some_iff.1 h).1
  cases xs with
  | nil =>
    cases z
    · refine .inr ⟨H.key i, 0, true, 0, rfl, ?_, fun e => absurd rfl e⟩
      rw [Heap.nx_ext, Heap.toNat_key, Heap.toNat_key]; omega
    · exact .inl ⟨rfl, rfl⟩
  | cons x xs =>
    refine .inr ⟨H.key i, 0, false, xs.length + 1, rfl, ?_, fun _ => ⟨0, true, x :: xs, by simp, ?_, by simp⟩⟩
    · rw [Heap.nx_ext, Heap.toNat_key, Heap.toNat_key]; omega
    · rw [Heap.get_ext_key _ _ _ hi, h]; rfl
/-- what a function hands back: a slice of its own, all else let go -/
theorem FnOk.dropZ' {f : FuncId} {args : List AV} {esz : Nat} {xs : List (List AV)} (hx : ∀ top σ, xs.map (AV.rens (rho H top σ)) = xs)
    (h : FnOk P f args H fun v G => ∃ z l i, v = zV z (H.key i) esz xs.length ∧ G = H.ext l ∧ ((zB z esz xs).live → l[i]? = some (zB z esz xs))) :
    FnOk P f args H fun v G => ∃ z, v = zV z H.nx esz xs.length ∧ G = H.ext [zB z esz xs] := by
  refine h.wk ?_
  rintro v G ⟨z, l, i, rfl, rfl, hl⟩
  refine ⟨l, [zB z esz xs], [i], zV z H.nx esz xs.length, rfl, ?_, rfl, by simp, ?_, z, rfl, rfl⟩
  · rw [zV_ren, ← Heap.key_zero, rho_key rfl]
  · intro p hp
    simp only [List.zip_cons_cons, List.zip_nil_left, List.mem_singleton] at hp
    subst hp
    intro hlive
    show l[i]? = some (Blk.ren _ (zB z esz xs))
    rw [zB_ren _ (hx _ _), hl hlive]
theorem FnOk.dropZn' {f : FuncId} {args : List AV} {esz n : Nat} {xs : List (List AV)} (hn : xs.length = n) (hx : ∀ top σ, xs.map (AV.rens (rho H top σ)) = xs)
    (h : FnOk P f args H fun v G => ∃ z l i, v = zV z (H.key i) esz n ∧ G = H.ext l ∧ ((zB z esz xs).live → l[i]? = some (zB z esz xs))) :
    FnOk P f args H fun v G => ∃ z, v = zV z H.nx esz n ∧ G = H.ext [zB z esz xs] := by subst hn; exact FnOk.dropZ' hx h
/-- the same of one that is nil where it is empty -/
theorem FnOk.dropO' {f : FuncId} {args : List AV} {esz n : Nat} {xs : List (List AV)} (hn : xs.length = n) (hx : ∀ top σ, xs.map (AV.rens (rho H top σ)) = xs)
    (h : FnOk P f args H fun v G => ∃ l i, v = outV (H.key i) esz n ∧ G = H.ext l ∧ ((outB esz xs).live → l[i]? = some (outB esz xs))) :
    FnOk P f args H fun v G => v = outV H.nx esz n ∧ G = H.ext [outB esz xs] := by
  subst hn
  refine h.wk ?_
  rintro v G ⟨l, i, rfl, rfl, hl⟩
  refine ⟨l, [outB esz xs], [i], outV H.nx esz xs.length, rfl, ?_, rfl, by simp, ?_, rfl, rfl⟩
  · rw [outV_ren', ← Heap.key_zero, rho_key rfl]
  · intro p hp
    simp only [List.zip_cons_cons, List.zip_nil_left, List.mem_singleton] at hp
    subst hp
    intro hlive
    show l[i]? = some (Blk.ren _ (outB esz xs))
    rw [outB_ren' _ (hx _ _), hl hlive]
theorem clone_z' {f : FuncId} {esz bytes : Nat} {zero : List AV} (hf : CloFn P f esz bytes zero) {v : AV} {xs : List (List AV)} (hA : Arr H esz v xs) (hb : (2 * xs.length + 192) * bytes ≤ 281474976710656) (hx : ∀ top σ, xs.map (AV.rens (rho H top σ)) = xs) :
    FnOk P f [v] H fun r G => ∃ z, r = zV z H.nx esz xs.length ∧ G = H.ext [zB z esz xs] := by
  refine FnOk.dropZ' hx ?_
  rcases hA with ⟨rfl, rfl⟩ | ⟨k, off, ex, cap, rfl, hk, h⟩
  · refine (clone_nil hf).mono ?_
    rintro v G ⟨rfl, rfl⟩
    exact ⟨true, [], 0, rfl, (Heap.ext_nil _).symm, fun h => h.elim⟩
  · rcases Nat.eq_zero_or_pos xs.length with h0 | h0
    · obtain rfl := List.length_eq_zero_iff.1 h0
      refine (clone_zero hf).mono ?_
      rintro v G ⟨rfl, rfl⟩
      exact ⟨false, _, 0, rfl, rfl, fun _ => rfl⟩
    · obtain ⟨r, wr, rows, rfl, hg, hrow⟩ := h (by intro e; rw [e] at h0; simp at h0)
      have hn : r + xs.length ≤ rows.length := by
        have := congrArg List.length hrow
        rw [List.length_take, List.length_drop] at this
        omega
      have key := clone_arr hf hg hn h0 hb (ex := ex) (cap := cap)
      rw [hrow] at key
      refine key.mono ?_
      rintro v G ⟨rfl, rfl⟩
      exact ⟨true, _, 1, (zV_pos h0).symm, rfl, fun _ => by rw [zB_pos h0]; rfl⟩
theorem FnOk.dropZ {f : FuncId} {args : List AV} {esz : Nat} {xs : List (List AV)} (hx : ∀ ρ, xs.map (AV.rens ρ) = xs)
    (h : FnOk P f args H fun v G => ∃ z l i, v = zV z (H.key i) esz xs.length ∧ G = H.ext l ∧ ((zB z esz xs).live → l[i]? = some (zB z esz xs))) :
    FnOk P f args H fun v G => ∃ z, v = zV z H.nx esz xs.length ∧ G = H.ext [zB z esz xs] := FnOk.dropZ' (fun _ _ => hx _) h
theorem FnOk.dropZn {f : FuncId} {args : List AV} {esz n : Nat} {xs : List (List AV)} (hn : xs.length = n) (hx : ∀ ρ, xs.map (AV.rens ρ) = xs)
    (h : FnOk P f args H fun v G => ∃ z l i, v = zV z (H.key i) esz n ∧ G = H.ext l ∧ ((zB z esz xs).live → l[i]? = some (zB z esz xs))) :
    FnOk P f args H fun v G => ∃ z, v = zV z H.nx esz n ∧ G = H.ext [zB z esz xs] := FnOk.dropZn' hn (fun _ _ => hx _) h
theorem FnOk.dropO {f : FuncId} {args : List AV} {esz n : Nat} {xs : List (List AV)} (hn : xs.length = n) (hx : ∀ ρ, xs.map (AV.rens ρ) = xs)
    (h : FnOk P f args H fun v G => ∃ l i, v = outV (H.key i) esz n ∧ G = H.ext l ∧ ((outB esz xs).live → l[i]? = some (outB esz xs))) :
    FnOk P f args H fun v G => v = outV H.nx esz n ∧ G = H.ext [outB esz xs] := FnOk.dropO' hn (fun _ _ => hx _) h
theorem clone_z {f : FuncId} {esz bytes : Nat} {zero : List AV} (hf : CloFn P f esz bytes zero) {v : AV} {xs : List (List AV)} (hA : Arr H esz v xs) (hb : (2 * xs.length + 192) * bytes ≤ 281474976710656) (hx : ∀ ρ, xs.map (AV.rens ρ) = xs) :
    FnOk P f [v] H fun r G => ∃ z, r = zV z H.nx esz xs.length ∧ G = H.ext [zB z esz xs] := clone_z' hf hA hb (fun _ _ => hx _)
theorem insert_z {f : FuncId} {esz bytes : Nat} {zero : List AV} (hf : InsFn P f esz bytes zero) {L : List Blk} {i j n : Nat} {z : Bool} {x : List AV} {xs : List (List AV)} {m : Nat}
    (hij : j ≠ i) (hj : L[j]? = some (.row true esz [x])) (hi : L[i]? = some (zB z esz xs)) (hn : xs.length = n) (hm : m ≤ n) (hl : n < 4294967296) (hb : (2 * (n + 1) + 192) * bytes ≤ 281474976710656) :
    FnOk P f [zV z (H.key i) esz n, .int .i64 m, .slice (H.key j) 0 1 esz true 1] (H.ext L) fun v G => ∃ b, v = outV (H.key L.length) esz (n + 1) ∧ G = H.ext (L.set i b ++ [outB esz (xs.take m ++ x :: xs.drop m)]) := by
  subst hn
  have hil := (List.getElem?_eq_some_iff.1 hi).1
  have hjl := (List.getElem?_eq_some_iff.1 hj).1
  have hgv : (H.ext L).get (H.key j) = some (.row true esz [x]) := by rw [Heap.get_ext_key _ _ _ hjl, hj]
  have hgk : (H.ext L).get (H.key i) = some (zB z esz xs) := by rw [Heap.get_ext_key _ _ _ hil, hi]
  have hset : L.set i (zB z esz xs) = L := by
    refine List.ext_getElem? fun q => ?_
    rw [List.getElem?_set]
    split
    · rename_i hq; subst hq; rw [hi]
    · rfl
  cases xs with
  | nil =>
    obtain rfl : m = 0 := by simpa using hm
    cases z
    · refine (insert_zero hf hgv hgk (by simpa using hb)).mono ?_
      rintro v G ⟨rfl, rfl⟩
      rw [Heap.nx_ext, Heap.ext_append]
      exact ⟨_, rfl, by rw [hset]; rfl⟩
    · refine (insert_nil hf hgv (by simpa using hb)).mono ?_
      rintro v G ⟨rfl, rfl⟩
      rw [Heap.nx_ext, Heap.ext_append]
      exact ⟨_, rfl, by rw [hset]; rfl⟩
  | cons y ys =>
    have hne : H.key j ≠ H.key i := fun h => hij (by
      have := congrArg K.toNat h
      rw [Heap.toNat_key, Heap.toNat_key] at this
      omega)
    refine (insert_own hf hne hgv hgk (by simp) hm hl hb).mono ?_
    rintro v G ⟨rfl, rfl⟩
    rw [Heap.nx_ext, Heap.set_ext_key _ _ _ _ hil, Heap.ext_append]
    refine ⟨.dead, rfl, ?_⟩
    congr 2
    rw [outB_pos (by simp only [List.length_append, List.length_cons, List.length_drop, List.length_take]; omega)]
@[go_sem] theorem bin_half {β : Type} (ek : EK) (pk : Option (List LK)) (lit : Bool) (a : Int) (f : β) (c : AV → β) : binV P ek pk lit .shr (.int .u64 a) (.int .u64 1) f c = c (.int .u64 (a.fdiv 2)) := bin_shr ek pk lit .u64 a f c .u64 1
theorem half_mid {i j : Nat} (h : i + j < 9223372036854775808) : IntKind.i64.wrap ((IntKind.u64.wrap (IntKind.i64.wrap ((i : Int) + (j : Int)))).fdiv 2) = (((i + j) / 2 : Nat) : Int) := by
  rw [wrap_i64 (n := (i : Int) + (j : Int)) (by omega) (by omega)]
  rw [show (i : Int) + (j : Int) = ((i + j : Nat) : Int) by omega, show IntKind.u64.wrap ((i + j : Nat) : Int) = ((i + j : Nat) : Int) from wrap_nat .u64 (i + j) (by show i + j ≤ 18446744073709551615; omega)]
  rw [show Int.fdiv ((i + j : Nat) : Int) 2 = (((i + j) / 2 : Nat) : Int) by rw [Int.fdiv_eq_ediv_of_nonneg _ (by decide)]; omega]
  exact wrap_i64 (by omega) (by omega)
@[go_sem] theorem max_int {β : Type} (k : IntKind) (a b : Int) (f : β) (c : AV → β) : mm2 true (.int k a) (.int k b) f c = c (.int k (max a b)) := by
  show bif' true (ltI a b fun z => bif' z (c (.int k b)) (c (.int k a))) (ltI b a fun z => bif' z (c (.int k b)) (c (.int k a))) = _
  rw [bif_true, ltI_eq, bif_eq]
  by_cases h : a < b
  · rw [decide_eq_true h, if_pos rfl, Int.max_eq_right (by omega)]
  · rw [decide_eq_false h, if_neg (by decide), Int.max_eq_left (by omega)]
theorem arr_row {L : List Blk} {esz i n : Nat} {wr ex : Bool} {cap : Nat} {xs : List (List AV)} (h : L[i]? = some (.row wr esz xs)) (hn : n = xs.length) : Arr (H.ext L) esz (.slice (H.key i) 0 n esz ex cap) xs := by
  subst hn
  have hi := (List.getElem?_eq_some_iff.1 h).1
  refine .inr ⟨H.key i, 0, ex, cap, rfl, ?_, fun _ => ⟨0, wr, xs, by simp, ?_, by simp⟩⟩
  · rw [Heap.nx_ext, Heap.toNat_key, Heap.toNat_key]; omega
  · rw [Heap.get_ext_key _ _ _ hi, h]
theorem arr_outV {L : List Blk} {esz i n : Nat} {xs : List (List AV)} (h : L[i]? = some (outB esz xs)) (hn : xs.length = n) : Arr (H.ext L) esz (outV (H.key i) esz n) xs := by
  subst hn
  rw [← zV_t]
  exact zB_arr (by rw [h, zB_t])
theorem arr_zV {z : Bool} {L : List Blk} {esz i n : Nat} {xs : List (List AV)} (h : L[i]? = some (zB z esz xs)) (hn : xs.length = n) : Arr (H.ext L) esz (zV z (H.key i) esz n) xs := by
  subst hn
  exact zB_arr h
@[go_sem low] theorem readC_first {β : Type} (f : β) (esz : Nat) (rows : List (List AV)) (q n : Nat) (c : List AV → β) (hp : q < esz) (hn : q + n ≤ esz) : readC f esz rows q n c = optC rows[0]? f fun row => bif' (Bool.and (Nat.beq q 0) (Nat.beq n esz)) (c row) (takeC f n (dropL q row) c) := by
  have := readC_at f esz rows 0 q n c hp hn
  rwa [Nat.zero_mul, Nat.zero_add] at this
theorem bool_t {p : Prop} [Decidable p] (h : p) : AV.bool true = .bool (decide p) := by rw [decide_eq_true h]
theorem bool_f {p : Prop} [Decidable p] (h : ¬p) : AV.bool false = .bool (decide p) := by rw [decide_eq_false h]
theorem Arr.uniq {v : AV} {esz : Nat} {xs ys : List (List AV)} (hx : Arr H esz v xs) (hy : Arr H esz v ys) (he : 0 < esz) : xs = ys := by
  rcases hx with ⟨rfl, rfl⟩ | ⟨k, off, ex, cap, rfl, _, h1⟩
  · rcases hy with ⟨_, rfl⟩ | ⟨_, _, _, _, h, _⟩
    · rfl
    · cases h
  · rcases hy with ⟨h, _⟩ | ⟨k', off', ex', cap', h, _, h2⟩
    · cases h
    · injection h with e1 e2 e3 e4 e5 e6
      subst e1 e2
      by_cases hn : xs = []
      · subst hn
        exact (List.length_eq_zero_iff.1 (by rw [← e3]; rfl)).symm
      · have hn' : ys ≠ [] := by intro h; subst h; exact hn (List.length_eq_zero_iff.1 (by rw [e3]; rfl))
        obtain ⟨r, wr, rows, e7, e8, e9⟩ := h1 hn
        obtain ⟨r', wr', rows', f7, f8, f9⟩ := h2 hn'
        rw [e8] at f8; cases f8
        have : r = r' := by
          have := e7.symm.trans f7
          exact Nat.eq_of_mul_eq_mul_right he this
        subst this
        rw [← e9, ← f9, e3]
theorem arr_uniq_note : True := trivial
end Go.Ev
/- once: numbers and texts as bytes, answers that may be: walked. -/


set_option linter.all false
set_option maxRecDepth 100000
namespace Go.Proofs
open Go Go.Ev
variable {H : Heap}

def byteV (b : Nat) : AV := .int .u8 (b : Int)
/-- a byte, in a cell -/
def byteC (b : Nat) : List AV := [byteV b]
theorem byteC_rens (ρ : K → K) (l : List Nat) : (l.map byteC).map (AV.rens ρ) = l.map byteC := by
  rw [List.map_map]
  refine List.map_congr_left fun j _ => ?_
  show [AV.ren ρ (.int .u8 (j : Int))] = _
  rw [AV.ren]; rfl
theorem byteC_ren1 (ρ : K → K) (b : Nat) : AV.rens ρ (byteC b) = byteC b := by show [AV.ren ρ (.int .u8 (b : Int))] = _; rw [AV.ren]; rfl
theorem bytesC_all {β : Type} : ∀ {l : List Nat} (_ : ∀ b ∈ l, b ≤ 255) (f : β) (c : List Nat → β), bytesC (l.map byteV) f c = c l
  | [], _, _, _ => rfl
  | b :: l, h, f, c => by
    show bif' (Nat.beq (kn .u8) 4) (bif' (Nat.ble b 255) (bytesC (l.map byteV) f fun r => c (b :: r)) f) f = _
    rw [show Nat.beq (kn .u8) 4 = true from rfl, bif_true, show Nat.ble b 255 = true by rw [Nat.ble_eq]; exact h b (by simp), bif_true]
    exact bytesC_all (fun x hx => h x (by simp [hx])) f _
theorem flat_bytes : ∀ l : List Nat, (l.map byteC).flatten = l.map byteV
  | [] => rfl
  | b :: l => by rw [List.map_cons, List.flatten_cons, flat_bytes l]; rfl
theorem read_bytes {β : Type} {l : List Nat} (h : 0 < l.length) (f : β) (c : List AV → β) : readC f 1 (l.map byteC) 0 l.length c = c (l.map byteV) := by
  match l, h with
  | b :: l, _ =>
    by_cases hl : l = []
    · subst hl
      simp only [List.map_cons, List.map_nil, List.length_cons, List.length_nil]
      rfl
    · have h1 : 0 < l.length := List.length_pos_iff.2 hl
      have h2 : ((b :: l).map byteC).flatten = (b :: l).map byteV := flat_bytes _
      unfold readC
      simp only [fN_eq, nthL_eq, Nat.zero_div, Nat.zero_mod, dropL_eq, List.drop_zero, flatL_eq, h2, takeC_eq, Nat.zero_add, List.length_map, Nat.le_refl, if_true]
      show bif' (Nat.beq 0 0 && Nat.beq (b :: l).length 1) (c [byteV b]) (bif' (Nat.ble (b :: l).length 1) (if (b :: l).length ≤ 1 then c _ else f) (c (List.take (b :: l).length _))) = _
      rw [show Nat.beq (b :: l).length 1 = false by rw [Bool.eq_false_iff]; intro e; rw [Nat.beq_eq] at e; simp at e; exact hl e, show Nat.ble (b :: l).length 1 = false by rw [Bool.eq_false_iff]; intro e; rw [Nat.ble_eq, List.length_cons] at e; omega]
      show c _ = c _
      rw [List.take_of_length_le (by rw [List.length_map]; exact Nat.le_refl _)]
theorem and63 {m : Nat} (h : m < 9223372036854775808) : IntKind.i64.wrap ((BitVec.ofInt IntKind.i64.bits (m : Int) &&& BitVec.ofInt IntKind.i64.bits 63).toNat : Int) = ((m % 64 : Nat) : Int) := by
  have h1 : (BitVec.ofInt IntKind.i64.bits (m : Int) &&& BitVec.ofInt IntKind.i64.bits 63).toNat = m % 64 := by
    rw [BitVec.toNat_and, BitVec.toNat_ofInt, BitVec.toNat_ofInt]
    show ((m : Int) % ((2 ^ 64 : Nat) : Int)).toNat &&& ((63 : Int) % ((2 ^ 64 : Nat) : Int)).toNat = _
    rw [show ((m : Int) % ((2 ^ 64 : Nat) : Int)).toNat = m by omega, show ((63 : Int) % ((2 ^ 64 : Nat) : Int)).toNat = 2 ^ 6 - 1 by decide, Nat.and_two_pow_sub_one_eq_mod]
  rw [h1]
  exact wrap_i64 (by omega) (by omega)
theorem or64 {r : Nat} (h : r < 64) : IntKind.i64.wrap ((BitVec.ofInt IntKind.i64.bits 64 ||| BitVec.ofInt IntKind.i64.bits (r : Int)).toNat : Int) = ((64 + r : Nat) : Int) := by
  have h1 : (BitVec.ofInt IntKind.i64.bits 64 ||| BitVec.ofInt IntKind.i64.bits (r : Int)).toNat = 64 + r := by
    rw [BitVec.toNat_or, BitVec.toNat_ofInt, BitVec.toNat_ofInt]
    show ((64 : Int) % ((2 ^ 64 : Nat) : Int)).toNat ||| ((r : Int) % ((2 ^ 64 : Nat) : Int)).toNat = _
    rw [show ((r : Int) % ((2 ^ 64 : Nat) : Int)).toNat = r by omega, show ((64 : Int) % ((2 ^ 64 : Nat) : Int)).toNat = 2 ^ 6 * 1 by decide]
    exact (Nat.two_pow_add_eq_or_of_lt (i := 6) h 1).symm
  rw [h1]
  exact wrap_i64 (by omega) (by omega)
theorem bin_and63 {β : Type} {P : Program} (ek : EK) (pk : Option (List LK)) (lit : Bool) {m : Nat} (h : m < 9223372036854775808) (f : β) (c : AV → β) : binV P ek pk lit .and (.int .i64 (m : Int)) (.int .i64 63) f c = c (.int .i64 ((m % 64 : Nat) : Int)) := by rw [bin_and, and63 h]
theorem bin_or64 {β : Type} {P : Program} (ek : EK) (pk : Option (List LK)) (lit : Bool) {r : Nat} (h : r < 64) (f : β) (c : AV → β) : binV P ek pk lit .or (.int .i64 64) (.int .i64 (r : Int)) f c = c (.int .i64 ((64 + r : Nat) : Int)) := by rw [bin_or, or64 h]
@[go_sem] theorem bin_shr6 {β : Type} {P : Program} (ek : EK) (pk : Option (List LK)) (lit : Bool) (a : Int) (f : β) (c : AV → β) : binV P ek pk lit .shr (.int .i64 a) (.int .u64 6) f c = c (.int .i64 (a.fdiv 64)) := bin_shr ek pk lit .i64 a f c .u64 6
/-- a number's bytes -/
def numT (n : Nat) : List Nat := if h : n < 64 then [n] else (64 + n % 64) :: numT (n / 64)
termination_by n
decreasing_by omega
theorem numT_lo {n : Nat} (h : n < 64) : numT n = [n] := by rw [numT, dif_pos h]
theorem numT_hi {n : Nat} (h : ¬ n < 64) : numT n = (64 + n % 64) :: numT (n / 64) := by rw [numT, dif_neg h]
theorem numT_len : ∀ (k n : Nat), n < 64 ^ (k + 1) → (numT n).length ≤ k + 1
  | 0, n, h => by rw [numT_lo (by simpa using h)]; simp
  | k + 1, n, h => by
    by_cases hn : n < 64
    · rw [numT_lo hn]; simp
    · rw [numT_hi hn, List.length_cons]
      have : n / 64 < 64 ^ (k + 1) := by
        rw [Nat.div_lt_iff_lt_mul (by decide)]
        rw [Nat.pow_succ] at h
        exact h
      have := numT_len k (n / 64) this
      omega
theorem numT_pos (n : Nat) : 0 < (numT n).length := by
  by_cases hn : n < 64
  · rw [numT_lo hn]; simp
  · rw [numT_hi hn]; simp
theorem numT_small {n : Nat} (h : n < 9223372036854775808) : (numT n).length ≤ 11 := numT_len 10 n (by omega)
theorem f69_ok {n : Nat} (hn : n < 9223372036854775808) : FnOk Try.prog 69 [.int .i64 (n : Int)] H fun r G => r = .str (numT n) ∧ G = H := by
  refine FnOk.drop (R := fun r => r = .str (numT n)) ?_ (by rintro v rfl ρ; rw [AV.ren])
  refine FnOk.of_WW Try.func69 rfl C69ok R69ok E0 good_E0 ?_
  have hmax : max (n : Int) 0 = (n : Int) := by omega
  simp only [go_sem, C69, Nat.reduceAdd, Nat.reduceSub, Nat.reduceMul, Nat.reduceDiv, Nat.reduceMod, Nat.reduceEqDiff, Nat.reduceLeDiff, Nat.reduceLT, Int.reduceLT, Int.reduceLE, Int.reduceEq, Int.reduceToNat, reduceIte, reduceCtorEq, List.length_nil, List.map_nil, List.length_cons, List.map_cons, List.replicate_succ, List.replicate_zero, List.set_cons_zero, List.set_cons_succ, List.take_succ_cons, List.take_zero, List.take_nil, List.length_append, List.map_append, List.cons_append, List.nil_append, List.drop_succ_cons, List.drop_zero, List.append_nil, List.getElem?_cons_zero, List.getElem?_cons_succ, eq_self, true_implies, not_true_eq_false, not_false_eq_true, false_implies, and_true, true_and, decide_true, decide_false, Bool.not_true, Bool.not_false, hmax]
  refine LL.st good_E0 (fun s : Nat × List Nat => s.1) (fun s => s.1 ≤ n ∧ s.2 ++ numT s.1 = numT n ∧ ∀ b ∈ s.2, b ≤ 255)
    (fun s => [(.z, .int .i64 s.1), ((.o (.o .z)), outV (H.key 0) 1 s.2.length)]) (fun s => [outB 1 (s.2.map byteC)]) ?_ (n, []) (σ := [0]) (Wk.of rfl (by decide) (by simp only [go_sem, List.length_nil, List.map_nil, List.length_cons, List.map_cons, List.replicate_succ, List.replicate_zero, List.set_cons_zero, List.set_cons_succ, List.take_succ_cons, List.take_zero, List.take_nil, List.length_append, List.map_append, List.cons_append, List.nil_append, List.drop_succ_cons, List.drop_zero, List.append_nil, List.getElem?_cons_zero, List.getElem?_cons_succ, Nat.reduceAdd, Nat.reduceSub, Nat.reduceMul, Nat.reduceDiv, Nat.reduceMod, Nat.reduceEqDiff, Nat.reduceLeDiff, Nat.reduceLT, Int.reduceLT, Int.reduceLE, Int.reduceEq, Int.reduceToNat, reduceIte, reduceCtorEq]) (by simp only [go_sem, ↓outB_ren', ↓zB_ren, byteC_rens, byteC_ren1, List.map_append, implies_true, List.length_nil, List.map_nil, List.length_cons, List.map_cons, List.replicate_succ, List.replicate_zero, List.set_cons_zero, List.set_cons_succ, List.take_succ_cons, List.take_zero, List.take_nil, List.length_append, List.map_append, List.cons_append, List.nil_append, List.drop_succ_cons, List.drop_zero, List.append_nil, List.getElem?_cons_zero, List.getElem?_cons_succ, Nat.reduceAdd, Nat.reduceSub, Nat.reduceMul, Nat.reduceDiv, Nat.reduceMod, Nat.reduceEqDiff, Nat.reduceLeDiff, Nat.reduceLT, Int.reduceLT, Int.reduceLE, Int.reduceEq, Int.reduceToNat, reduceIte, reduceCtorEq, eq_self, true_implies, not_true_eq_false, not_false_eq_true, false_implies, and_true, true_and, decide_true, decide_false, Bool.not_true, Bool.not_false])) ⟨Nat.le_refl _, rfl, by simp⟩
  rintro ⟨m, acc⟩ ⟨hm, hacc, hby⟩
  simp only at hm hacc hby
  have hlen := congrArg List.length hacc
  rw [List.length_append] at hlen
  have h11 := numT_small hn
  have hmp := numT_pos m
  by_cases hlt : m < 64
  · have hc : ¬ (64 : Int) ≤ (m : Int) := by omega
    have hw := wrap_u8 (m := m) (by omega)
    simp only [go_sem, ↓appR_hide, C69L0, Nat.reduceAdd, Nat.reduceSub, Nat.reduceMul, Nat.reduceDiv, Nat.reduceMod, Nat.reduceEqDiff, Nat.reduceLeDiff, Nat.reduceLT, Int.reduceLT, Int.reduceLE, Int.reduceEq, Int.reduceToNat, reduceIte, reduceCtorEq, List.length_nil, List.map_nil, List.length_cons, List.map_cons, List.replicate_succ, List.replicate_zero, List.set_cons_zero, List.set_cons_succ, List.take_succ_cons, List.take_zero, List.take_nil, List.length_append, List.map_append, List.cons_append, List.nil_append, List.drop_succ_cons, List.drop_zero, List.append_nil, List.getElem?_cons_zero, List.getElem?_cons_succ, eq_self, true_implies, not_true_eq_false, not_false_eq_true, false_implies, and_true, true_and, decide_true, decide_false, Bool.not_true, Bool.not_false, hc, hw]
    refine RW_app _ (byteC m) rfl (List.length_map ..) rfl (okBig_le (by omega) (by decide)) ?_
    have hs : acc.map byteC ++ [byteC m] = (acc ++ [m]).map byteC := by rw [List.map_append]; rfl
    have hsl : (acc ++ [m]).length = acc.length + 1 := by rw [List.length_append]; rfl
    have hB := outB_pos (e := 1) (xs := (acc ++ [m]).map byteC) (by rw [List.length_map, hsl]; omega)
    have hrd := fun c => read_bytes (l := acc ++ [m]) (by omega) R1.fail c
    have hall := fun c => bytesC_all (l := acc ++ [m]) (fun b hb => by
      rcases List.mem_append.1 hb with h | h
      · exact hby b h
      · rw [List.mem_singleton] at h; omega) R1.fail c
    rw [hsl] at hrd
    rw [hs, hB]
    rw [numT_lo hlt] at hacc
    rw [hacc] at hall hrd ⊢
    simp only [go_sem, Nat.reduceAdd, Nat.reduceSub, Nat.reduceMul, Nat.reduceDiv, Nat.reduceMod, Nat.reduceEqDiff, Nat.reduceLeDiff, Nat.reduceLT, Int.reduceLT, Int.reduceLE, Int.reduceEq, Int.reduceToNat, reduceIte, reduceCtorEq, eq_self, true_implies, not_true_eq_false, not_false_eq_true, false_implies, and_true, true_and, decide_true, decide_false, Bool.not_true, Bool.not_false, List.set_cons_zero, List.cons_append, List.nil_append, List.getElem?_cons_zero, List.getElem?_cons_succ, hrd, hall]
    exact ⟨_, rfl⟩
  · have hc : (64 : Int) ≤ (m : Int) := by omega
    have ha := fun f c => bin_and63 (β := R1) (P := Try.prog) .no none true (m := m) (by omega) f c
    have hr : m % 64 < 64 := Nat.mod_lt _ (by decide)
    have ho := fun f c => bin_or64 (β := R1) (P := Try.prog) .no none true hr f c
    have hu := wrap_u8 (m := 64 + m % 64) (by omega)
    have hs : Int.fdiv (m : Int) 64 = ((m / 64 : Nat) : Int) := by rw [Int.fdiv_eq_ediv_of_nonneg _ (by decide)]; omega
    simp only [go_sem, ↓appR_hide, C69L0, Nat.reduceAdd, Nat.reduceSub, Nat.reduceMul, Nat.reduceDiv, Nat.reduceMod, Nat.reduceEqDiff, Nat.reduceLeDiff, Nat.reduceLT, Int.reduceLT, Int.reduceLE, Int.reduceEq, Int.reduceToNat, reduceIte, reduceCtorEq, List.length_nil, List.map_nil, List.length_cons, List.map_cons, List.replicate_succ, List.replicate_zero, List.set_cons_zero, List.set_cons_succ, List.take_succ_cons, List.take_zero, List.take_nil, List.length_append, List.map_append, List.cons_append, List.nil_append, List.drop_succ_cons, List.drop_zero, List.append_nil, List.getElem?_cons_zero, List.getElem?_cons_succ, eq_self, true_implies, not_true_eq_false, not_false_eq_true, false_implies, and_true, true_and, decide_true, decide_false, Bool.not_true, Bool.not_false, hc, ↓ha, ↓ho, hu, hs]
    refine RW_app _ (byteC (64 + m % 64)) rfl (List.length_map ..) rfl (okBig_le (by omega) (by decide)) ?_
    have hs2 : acc.map byteC ++ [byteC (64 + m % 64)] = (acc ++ [64 + m % 64]).map byteC := by rw [List.map_append]; rfl
    rw [hs2]
    simp only [go_sem, Nat.reduceAdd, Nat.reduceSub, Nat.reduceMul, Nat.reduceDiv, Nat.reduceMod, Nat.reduceEqDiff, Nat.reduceLeDiff, Nat.reduceLT, Int.reduceLT, Int.reduceLE, Int.reduceEq, Int.reduceToNat, reduceIte, reduceCtorEq, List.length_nil, List.map_nil, List.length_cons, List.map_cons, List.replicate_succ, List.replicate_zero, List.set_cons_zero, List.set_cons_succ, List.take_succ_cons, List.take_zero, List.take_nil, List.length_append, List.map_append, List.cons_append, List.nil_append, List.drop_succ_cons, List.drop_zero, List.append_nil, List.getElem?_cons_zero, List.getElem?_cons_succ, eq_self, true_implies, not_true_eq_false, not_false_eq_true, false_implies, and_true, true_and, decide_true, decide_false, Bool.not_true, Bool.not_false, hs]
    refine ⟨(m / 64, acc ++ [64 + m % 64]), by show m / 64 < m; omega, ⟨by show m / 64 ≤ n; omega, ?_, ?_⟩, _, [2], rfl, Wk.of rfl (by decide) (by simp only [go_sem, outV_ren', List.length_nil, List.map_nil, List.length_cons, List.map_cons, List.replicate_succ, List.replicate_zero, List.set_cons_zero, List.set_cons_succ, List.take_succ_cons, List.take_zero, List.take_nil, List.length_append, List.map_append, List.cons_append, List.nil_append, List.drop_succ_cons, List.drop_zero, List.append_nil, List.getElem?_cons_zero, List.getElem?_cons_succ, Nat.reduceAdd, Nat.reduceSub, Nat.reduceMul, Nat.reduceDiv, Nat.reduceMod, Nat.reduceEqDiff, Nat.reduceLeDiff, Nat.reduceLT, Int.reduceLT, Int.reduceLE, Int.reduceEq, Int.reduceToNat, reduceIte, reduceCtorEq]) (by simp only [go_sem, ↓outB_ren', ↓zB_ren, byteC_rens, byteC_ren1, List.map_append, implies_true, List.length_nil, List.map_nil, List.length_cons, List.map_cons, List.replicate_succ, List.replicate_zero, List.set_cons_zero, List.set_cons_succ, List.take_succ_cons, List.take_zero, List.take_nil, List.length_append, List.map_append, List.cons_append, List.nil_append, List.drop_succ_cons, List.drop_zero, List.append_nil, List.getElem?_cons_zero, List.getElem?_cons_succ, Nat.reduceAdd, Nat.reduceSub, Nat.reduceMul, Nat.reduceDiv, Nat.reduceMod, Nat.reduceEqDiff, Nat.reduceLeDiff, Nat.reduceLT, Int.reduceLT, Int.reduceLE, Int.reduceEq, Int.reduceToNat, reduceIte, reduceCtorEq, eq_self, true_implies, not_true_eq_false, not_false_eq_true, false_implies, and_true, true_and, decide_true, decide_false, Bool.not_true, Bool.not_false])⟩
    · show (acc ++ [64 + m % 64]) ++ numT (m / 64) = numT n
      rw [← hacc, numT_hi hlt, List.append_assoc]; rfl
    · intro b hb
      rcases List.mem_append.1 hb with h | h
      · exact hby b h
      · rw [List.mem_singleton] at h; omega
end Go.Proofs
/- once: texts as bytes, answers that may be: walked. -/

set_option linter.all false
set_option maxRecDepth 100000
namespace Go.Proofs
open Go Go.Ev
variable {H : Heap}

def textT (s : List Nat) : List Nat := numT s.length ++ s
theorem f70_ok {s : List Nat} (hs : s.length < 4611686018427387904) : FnOk Try.prog 70 [.str s] H fun r G => r = .str (textT s) ∧ G = H := by
  refine FnOk.drop (R := fun r => r = .str (textT s)) ?_ (by rintro v rfl ρ; rw [AV.ren])
  refine FnOk.of_WW Try.func70 rfl C70ok R70ok E0 good_E0 ?_
  have h := numT_small (n := s.length) (by omega)
  have hle : (numT s.length).length + s.length ≤ 9223372036854775807 := by omega
  simp only [go_sem, C70, Nat.reduceAdd, Nat.reduceSub, Nat.reduceMul, Nat.reduceDiv, Nat.reduceMod, Nat.reduceEqDiff, Nat.reduceLeDiff, Nat.reduceLT, Int.reduceLT, Int.reduceLE, Int.reduceEq, Int.reduceToNat, reduceIte, reduceCtorEq, List.length_nil, List.map_nil, List.length_cons, List.map_cons, List.replicate_succ, List.replicate_zero, List.set_cons_zero, List.set_cons_succ, List.take_succ_cons, List.take_zero, List.take_nil, List.length_append, List.map_append, List.cons_append, List.nil_append, List.drop_succ_cons, List.drop_zero, List.append_nil, List.getElem?_cons_zero, List.getElem?_cons_succ, eq_self, true_implies, not_true_eq_false, not_false_eq_true, false_implies, and_true, true_and, decide_true, decide_false, Bool.not_true, Bool.not_false]
  refine CL.one (f69_ok (by omega)) ?_
  simp only [go_sem, Nat.reduceAdd, Nat.reduceSub, Nat.reduceMul, Nat.reduceDiv, Nat.reduceMod, Nat.reduceEqDiff, Nat.reduceLeDiff, Nat.reduceLT, Int.reduceLT, Int.reduceLE, Int.reduceEq, Int.reduceToNat, reduceIte, reduceCtorEq, List.length_nil, List.map_nil, List.length_cons, List.map_cons, List.replicate_succ, List.replicate_zero, List.set_cons_zero, List.set_cons_succ, List.take_succ_cons, List.take_zero, List.take_nil, List.length_append, List.map_append, List.cons_append, List.nil_append, List.drop_succ_cons, List.drop_zero, List.append_nil, List.getElem?_cons_zero, List.getElem?_cons_succ, eq_self, true_implies, not_true_eq_false, not_false_eq_true, false_implies, and_true, true_and, decide_true, decide_false, Bool.not_true, Bool.not_false, hle]
  exact ⟨rfl, _, rfl⟩
/-- a row of an answer -/
structure Rw where
  k : List Nat
  v : List Nat
  ver : Int
def Rw.enc (r : Rw) : List AV := [.str r.k, .str r.v, .int .i64 r.ver]
theorem Rw.rens (ρ : K → K) (c : Rw) : AV.rens ρ c.enc = c.enc := by simp only [Rw.enc, AV.rens, AV.ren]
theorem Rw.map_rens (ρ : K → K) (l : List Rw) : (l.map Rw.enc).map (AV.rens ρ) = l.map Rw.enc := by
  rw [List.map_map]; exact List.map_congr_left fun c _ => Rw.rens ρ c
theorem Rw.enc_inj {c d : Rw} (h : c.k = d.k ∧ c.v = d.v ∧ c.ver = d.ver) : c = d := by cases c; cases d; simp_all
def badR (r : Rw) : Prop := (255 : Int) < (r.k.length : Int) ∨ (255 : Int) < (r.v.length : Int) ∨ r.ver < 0 ∨ (281474976710656 : Int) ≤ r.ver
instance (r : Rw) : Decidable (badR r) := inferInstanceAs (Decidable (_ ∨ _))
theorem f79_ok (c : Rw) : FnOk Try.prog 79 [.agg c.enc] H fun r G => r = .bool (decide (badR c)) ∧ G = H := by
  refine FnOk.drop (R := fun r => r = .bool (decide (badR c))) ?_ (by rintro v rfl ρ; rw [AV.ren])
  refine FnOk.of_WW Try.func79 rfl C79ok R79ok E0 good_E0 ?_
  simp only [go_sem, C79, Rw.enc, Nat.reduceAdd, Nat.reduceSub, Nat.reduceMul, Nat.reduceDiv, Nat.reduceMod, Nat.reduceEqDiff, Nat.reduceLeDiff, Nat.reduceLT, Int.reduceLT, Int.reduceLE, Int.reduceEq, Int.reduceToNat, reduceIte, reduceCtorEq, List.length_nil, List.map_nil, List.length_cons, List.map_cons, List.replicate_succ, List.replicate_zero, List.set_cons_zero, List.set_cons_succ, List.take_succ_cons, List.take_zero, List.take_nil, List.length_append, List.map_append, List.cons_append, List.nil_append, List.drop_succ_cons, List.drop_zero, List.append_nil, List.getElem?_cons_zero, List.getElem?_cons_succ, eq_self, true_implies, not_true_eq_false, not_false_eq_true, false_implies, and_true, true_and, decide_true, decide_false, Bool.not_true, Bool.not_false]
  refine ⟨fun h => ⟨bool_t (.inl h), _, rfl⟩, fun h1 => ⟨fun h => ⟨bool_t (.inr (.inl h)), _, rfl⟩, fun h2 => ⟨fun h => ⟨bool_t (.inr (.inr (.inl h))), _, rfl⟩, fun h3 => ⟨fun h => ⟨bool_t (.inr (.inr (.inr h))), _, rfl⟩, fun h4 => ⟨bool_f ?_, _, rfl⟩⟩⟩⟩⟩
  rintro (h | h | h | h)
  · exact h1 h
  · exact h2 h
  · exact h3 h
  · exact h4 h
def anyBad (l : List Rw) : Prop := ∃ r ∈ l, badR r
noncomputable instance (l : List Rw) : Decidable (anyBad l) := Classical.propDecidable _
theorem f85_ok {v : AV} {l : List Rw} (hA : Arr H 3 v (l.map Rw.enc)) (hl : l.length ≤ 9223372036854775807) :
    FnOk Try.prog 85 [v, .fn (.func 79) [] []] H fun r G => (∃ n : Int, r = .int .i64 n ∧ (0 ≤ n ↔ anyBad l)) ∧ G = H := by
  refine FnOk.assume fun hok => ?_
  refine FnOk.drop (R := fun r => ∃ n : Int, r = .int .i64 n ∧ (0 ≤ n ↔ anyBad l)) ?_ (by rintro v ⟨n, rfl, _⟩ ρ; rw [AV.ren])
  refine FnOk.of_WW Try.func85 rfl C85ok R85ok E0 good_E0 ?_
  have hlen := fun G => hA.len G; simp only [List.length_map] at hlen; have hren := hA.ren
  simp only [go_sem, C85, Nat.reduceAdd, Nat.reduceSub, Nat.reduceMul, Nat.reduceDiv, Nat.reduceMod, Nat.reduceEqDiff, Nat.reduceLeDiff, Nat.reduceLT, Int.reduceLT, Int.reduceLE, Int.reduceEq, Int.reduceToNat, reduceIte, reduceCtorEq, hlen]
  refine LL.st good_E0 (fun i : Nat => l.length - i) (fun i => i ≤ l.length ∧ ∀ j d, j < i → l[j]? = some d → ¬ badR d)
    (fun i => [(.z, v), ((.o .z), .fn (.func 79) [] []), ((.i (.i .z)), v), ((.o (.o (.o .z))), .int .i64 l.length), ((.i (.o (.o .z))), .int .i64 i)]) (fun i => []) ?_ 0 (σ := []) (Wk.of rfl (by decide) (by simp only [go_sem, hren, List.length_nil, List.map_nil, List.length_cons, List.map_cons, List.replicate_succ, List.replicate_zero, List.set_cons_zero, List.set_cons_succ, List.take_succ_cons, List.take_zero, List.take_nil, List.length_append, List.map_append, List.cons_append, List.nil_append, List.drop_succ_cons, List.drop_zero, List.append_nil, List.getElem?_cons_zero, List.getElem?_cons_succ, Nat.reduceAdd, Nat.reduceSub, Nat.reduceMul, Nat.reduceDiv, Nat.reduceMod, Nat.reduceEqDiff, Nat.reduceLeDiff, Nat.reduceLT, Int.reduceLT, Int.reduceLE, Int.reduceEq, Int.reduceToNat, reduceIte, reduceCtorEq]) (by simp only [go_sem, List.length_nil, List.map_nil, List.length_cons, List.map_cons, List.replicate_succ, List.replicate_zero, List.set_cons_zero, List.set_cons_succ, List.take_succ_cons, List.take_zero, List.take_nil, List.length_append, List.map_append, List.cons_append, List.nil_append, List.drop_succ_cons, List.drop_zero, List.append_nil, List.getElem?_cons_zero, List.getElem?_cons_succ, Nat.reduceAdd, Nat.reduceSub, Nat.reduceMul, Nat.reduceDiv, Nat.reduceMod, Nat.reduceEqDiff, Nat.reduceLeDiff, Nat.reduceLT, Int.reduceLT, Int.reduceLE, Int.reduceEq, Int.reduceToNat, reduceIte, reduceCtorEq, eq_self, true_implies, not_true_eq_false, not_false_eq_true, false_implies, and_true, true_and, decide_true, decide_false, Bool.not_true, Bool.not_false])) ⟨Nat.zero_le _, fun j d h => absurd h (Nat.not_lt_zero _)⟩
  rintro i ⟨hi, hno⟩
  by_cases hlt : i < l.length
  · obtain ⟨kk, r, ex', cap', wr, rows, hv, hrho, hgo, hrow⟩ := hA.at hok (j := i) (by rw [List.length_map]; exact hlt); simp only [List.length_map, List.getElem_map] at hv hrow; cases hv; have hget : l[i]? = some l[i] := List.getElem?_eq_getElem hlt; generalize l[i] = c at hrow hget; have hw := wrap_succ (n := i) (by omega); have hci : (i : Int) < (l.length : Int) := (by omega); have hsi : i + 1 ≤ l.length := (by omega)
    simp only [go_sem, C85L0, Nat.reduceAdd, Nat.reduceSub, Nat.reduceMul, Nat.reduceDiv, Nat.reduceMod, Nat.reduceEqDiff, Nat.reduceLeDiff, Nat.reduceLT, Int.reduceLT, Int.reduceLE, Int.reduceEq, Int.reduceToNat, reduceIte, reduceCtorEq, List.length_nil, List.map_nil, List.length_cons, List.map_cons, List.replicate_succ, List.replicate_zero, List.set_cons_zero, List.set_cons_succ, List.take_succ_cons, List.take_zero, List.take_nil, List.length_append, List.map_append, List.cons_append, List.nil_append, List.drop_succ_cons, List.drop_zero, List.append_nil, List.getElem?_cons_zero, List.getElem?_cons_succ, eq_self, true_implies, not_true_eq_false, not_false_eq_true, false_implies, and_true, true_and, decide_true, decide_false, Bool.not_true, Bool.not_false, hci, hsi, hgo, hrow, hw, Rw.enc]
    refine CL.bool (f79_ok c) (fun g => ?_) (fun g => ?_)
    · simp only [go_sem, Nat.reduceAdd, Nat.reduceSub, Nat.reduceMul, Nat.reduceDiv, Nat.reduceMod, Nat.reduceEqDiff, Nat.reduceLeDiff, Nat.reduceLT, Int.reduceLT, Int.reduceLE, Int.reduceEq, Int.reduceToNat, reduceIte, reduceCtorEq, List.length_nil, List.map_nil, List.length_cons, List.map_cons, List.replicate_succ, List.replicate_zero, List.set_cons_zero, List.set_cons_succ, List.take_succ_cons, List.take_zero, List.take_nil, List.length_append, List.map_append, List.cons_append, List.nil_append, List.drop_succ_cons, List.drop_zero, List.append_nil, List.getElem?_cons_zero, List.getElem?_cons_succ, eq_self, true_implies, not_true_eq_false, not_false_eq_true, false_implies, and_true, true_and, decide_true, decide_false, Bool.not_true, Bool.not_false]
      exact ⟨⟨_, rfl, fun _ => ⟨c, List.mem_of_getElem? hget, g⟩, fun _ => by omega⟩, _, rfl⟩
    · simp only [go_sem, Nat.reduceAdd, Nat.reduceSub, Nat.reduceMul, Nat.reduceDiv, Nat.reduceMod, Nat.reduceEqDiff, Nat.reduceLeDiff, Nat.reduceLT, Int.reduceLT, Int.reduceLE, Int.reduceEq, Int.reduceToNat, reduceIte, reduceCtorEq, List.length_nil, List.map_nil, List.length_cons, List.map_cons, List.replicate_succ, List.replicate_zero, List.set_cons_zero, List.set_cons_succ, List.take_succ_cons, List.take_zero, List.take_nil, List.length_append, List.map_append, List.cons_append, List.nil_append, List.drop_succ_cons, List.drop_zero, List.append_nil, List.getElem?_cons_zero, List.getElem?_cons_succ, eq_self, true_implies, not_true_eq_false, not_false_eq_true, false_implies, and_true, true_and, decide_true, decide_false, Bool.not_true, Bool.not_false, hw]
      refine ⟨i + 1, by show l.length - (i + 1) < l.length - i; omega, ⟨by omega, fun j d hj hd => ?_⟩, _, [], rfl, Wk.of rfl (by decide) (by simp only [go_sem, hren, hrho, hw, List.length_nil, List.map_nil, List.length_cons, List.map_cons, List.replicate_succ, List.replicate_zero, List.set_cons_zero, List.set_cons_succ, List.take_succ_cons, List.take_zero, List.take_nil, List.length_append, List.map_append, List.cons_append, List.nil_append, List.drop_succ_cons, List.drop_zero, List.append_nil, List.getElem?_cons_zero, List.getElem?_cons_succ, Nat.reduceAdd, Nat.reduceSub, Nat.reduceMul, Nat.reduceDiv, Nat.reduceMod, Nat.reduceEqDiff, Nat.reduceLeDiff, Nat.reduceLT, Int.reduceLT, Int.reduceLE, Int.reduceEq, Int.reduceToNat, reduceIte, reduceCtorEq]) (by simp only [go_sem, List.length_nil, List.map_nil, List.length_cons, List.map_cons, List.replicate_succ, List.replicate_zero, List.set_cons_zero, List.set_cons_succ, List.take_succ_cons, List.take_zero, List.take_nil, List.length_append, List.map_append, List.cons_append, List.nil_append, List.drop_succ_cons, List.drop_zero, List.append_nil, List.getElem?_cons_zero, List.getElem?_cons_succ, Nat.reduceAdd, Nat.reduceSub, Nat.reduceMul, Nat.reduceDiv, Nat.reduceMod, Nat.reduceEqDiff, Nat.reduceLeDiff, Nat.reduceLT, Int.reduceLT, Int.reduceLE, Int.reduceEq, Int.reduceToNat, reduceIte, reduceCtorEq, eq_self, true_implies, not_true_eq_false, not_false_eq_true, false_implies, and_true, true_and, decide_true, decide_false, Bool.not_true, Bool.not_false])⟩
      rcases Nat.lt_or_ge j i with h | h
      · exact hno j d h hd
      · obtain rfl : j = i := by omega
        rw [hget] at hd; cases hd; exact g
  · have hci : ¬ (i : Int) < (l.length : Int) := by omega
    simp only [go_sem, C85L0, Nat.reduceAdd, Nat.reduceSub, Nat.reduceMul, Nat.reduceDiv, Nat.reduceMod, Nat.reduceEqDiff, Nat.reduceLeDiff, Nat.reduceLT, Int.reduceLT, Int.reduceLE, Int.reduceEq, Int.reduceToNat, reduceIte, reduceCtorEq, List.length_nil, List.map_nil, List.length_cons, List.map_cons, List.replicate_succ, List.replicate_zero, List.set_cons_zero, List.set_cons_succ, List.take_succ_cons, List.take_zero, List.take_nil, List.length_append, List.map_append, List.cons_append, List.nil_append, List.drop_succ_cons, List.drop_zero, List.append_nil, List.getElem?_cons_zero, List.getElem?_cons_succ, eq_self, true_implies, not_true_eq_false, not_false_eq_true, false_implies, and_true, true_and, decide_true, decide_false, Bool.not_true, Bool.not_false, hci]
    refine ⟨⟨_, rfl, fun h => absurd h (by decide), ?_⟩, _, rfl⟩
    rintro ⟨d, hd, hb⟩
    obtain ⟨j, hj⟩ := List.mem_iff_getElem?.1 hd
    exact absurd hb (hno j d (by have := (List.getElem?_eq_some_iff.1 hj).1; omega) hj)
theorem f80_ok {v : AV} {l : List Rw} (hA : Arr H 3 v (l.map Rw.enc)) (hl : l.length ≤ 9223372036854775807) :
    FnOk Try.prog 80 [v, .fn (.func 79) [] []] H fun r G => r = .bool (decide (anyBad l)) ∧ G = H := by
  refine FnOk.drop (R := fun r => r = .bool (decide (anyBad l))) ?_ (by rintro v rfl ρ; rw [AV.ren])
  refine FnOk.of_WW Try.func80 rfl C80ok R80ok E0 good_E0 ?_
  simp only [go_sem, C80, Nat.reduceAdd, Nat.reduceSub, Nat.reduceMul, Nat.reduceDiv, Nat.reduceMod, Nat.reduceEqDiff, Nat.reduceLeDiff, Nat.reduceLT, Int.reduceLT, Int.reduceLE, Int.reduceEq, Int.reduceToNat, reduceIte, reduceCtorEq, List.length_nil, List.map_nil, List.length_cons, List.map_cons, List.replicate_succ, List.replicate_zero, List.set_cons_zero, List.set_cons_succ, List.take_succ_cons, List.take_zero, List.take_nil, List.length_append, List.map_append, List.cons_append, List.nil_append, List.drop_succ_cons, List.drop_zero, List.append_nil, List.getElem?_cons_zero, List.getElem?_cons_succ, eq_self, true_implies, not_true_eq_false, not_false_eq_true, false_implies, and_true, true_and, decide_true, decide_false, Bool.not_true, Bool.not_false]
  refine CL.of (f85_ok (hA.ext []) hl) ?_
  rintro _ _ ⟨⟨n, rfl, hn⟩, rfl⟩
  simp only [go_sem, Nat.reduceAdd, Nat.reduceSub, Nat.reduceMul, Nat.reduceDiv, Nat.reduceMod, Nat.reduceEqDiff, Nat.reduceLeDiff, Nat.reduceLT, Int.reduceLT, Int.reduceLE, Int.reduceEq, Int.reduceToNat, reduceIte, reduceCtorEq, List.length_nil, List.map_nil, List.length_cons, List.map_cons, List.replicate_succ, List.replicate_zero, List.set_cons_zero, List.set_cons_succ, List.take_succ_cons, List.take_zero, List.take_nil, List.length_append, List.map_append, List.cons_append, List.nil_append, List.drop_succ_cons, List.drop_zero, List.append_nil, List.getElem?_cons_zero, List.getElem?_cons_succ, eq_self, true_implies, not_true_eq_false, not_false_eq_true, false_implies, and_true, true_and, decide_true, decide_false, Bool.not_true, Bool.not_false]
  exact ⟨fun h => ⟨bool_t (hn.1 h), [], rfl⟩, fun h => ⟨bool_f fun e => h (hn.2 e), [], rfl⟩⟩
/-- an answer, with where its rows lie -/
structure An where
  code : Int
  val : List Nat
  ver : Int
  rows : List Rw
  rv : AV
def An.enc (a : An) : List AV := [.int .i64 a.code, .str a.val, .int .i64 a.ver, a.rv]
def An.ok (H : Heap) (a : An) : Prop := Arr H 3 a.rv (a.rows.map Rw.enc) ∧ a.rows.length ≤ 9223372036854775807
theorem An.ok.ext {a : An} (h : a.ok H) (L : List Blk) : a.ok (H.ext L) := ⟨h.1.ext L, h.2⟩
def isAns (a : An) : Prop := (0 ≤ a.code ∧ a.code < 281474976710656 ∧ 0 ≤ a.ver ∧ a.ver < 281474976710656 ∧ (a.val.length : Int) ≤ 255) ∧ (a.rows.length : Int) ≤ 16 ∧ ¬ anyBad a.rows
noncomputable instance (a : An) : Decidable (isAns a) := Classical.propDecidable _
theorem f68_ok {a : An} (h : a.ok H) : FnOk Try.prog 68 [.agg a.enc] H fun r G => r = .bool (decide (isAns a)) ∧ G = H := by
  refine FnOk.drop (R := fun r => r = .bool (decide (isAns a))) ?_ (by rintro v rfl ρ; rw [AV.ren])
  refine FnOk.of_WW Try.func68 rfl C68ok R68ok E0 good_E0 ?_
  have hlen := fun G => h.1.len G
  simp only [List.length_map] at hlen
  simp only [go_sem, C68, An.enc, Nat.reduceAdd, Nat.reduceSub, Nat.reduceMul, Nat.reduceDiv, Nat.reduceMod, Nat.reduceEqDiff, Nat.reduceLeDiff, Nat.reduceLT, Int.reduceLT, Int.reduceLE, Int.reduceEq, Int.reduceToNat, reduceIte, reduceCtorEq, List.length_nil, List.map_nil, List.length_cons, List.map_cons, List.replicate_succ, List.replicate_zero, List.set_cons_zero, List.set_cons_succ, List.take_succ_cons, List.take_zero, List.take_nil, List.length_append, List.map_append, List.cons_append, List.nil_append, List.drop_succ_cons, List.drop_zero, List.append_nil, List.getElem?_cons_zero, List.getElem?_cons_succ, eq_self, true_implies, not_true_eq_false, not_false_eq_true, false_implies, and_true, true_and, decide_true, decide_false, Bool.not_true, Bool.not_false, hlen]
  refine ⟨fun g => ⟨bool_f fun e => absurd e.1.1 (by omega), _, rfl⟩, fun g1 => ⟨fun g => ⟨bool_f fun e => absurd e.1.2.1 (by omega), _, rfl⟩, fun g2 => ⟨fun g => ⟨bool_f fun e => absurd e.1.2.2.1 (by omega), _, rfl⟩, fun g3 => ⟨fun g => ⟨bool_f fun e => absurd e.1.2.2.2.1 (by omega), _, rfl⟩, fun g4 => ⟨fun g => ⟨bool_f fun e => absurd e.1.2.2.2.2 (by omega), _, rfl⟩, fun g5 => ⟨fun g => ⟨bool_f fun e => absurd e.2.1 (by omega), _, rfl⟩, fun g6 => ?_⟩⟩⟩⟩⟩⟩
  refine CL.bool (f80_ok (h.1.ext _) h.2) (fun g7 => ?_) (fun g7 => ?_)
  · simp only [go_sem, Nat.reduceAdd, Nat.reduceSub, Nat.reduceMul, Nat.reduceDiv, Nat.reduceMod, Nat.reduceEqDiff, Nat.reduceLeDiff, Nat.reduceLT, Int.reduceLT, Int.reduceLE, Int.reduceEq, Int.reduceToNat, reduceIte, reduceCtorEq, List.length_nil, List.map_nil, List.length_cons, List.map_cons, List.replicate_succ, List.replicate_zero, List.set_cons_zero, List.set_cons_succ, List.take_succ_cons, List.take_zero, List.take_nil, List.length_append, List.map_append, List.cons_append, List.nil_append, List.drop_succ_cons, List.drop_zero, List.append_nil, List.getElem?_cons_zero, List.getElem?_cons_succ, eq_self, true_implies, not_true_eq_false, not_false_eq_true, false_implies, and_true, true_and, decide_true, decide_false, Bool.not_true, Bool.not_false]
    exact ⟨bool_f fun e => e.2.2 g7, _, rfl⟩
  · simp only [go_sem, Nat.reduceAdd, Nat.reduceSub, Nat.reduceMul, Nat.reduceDiv, Nat.reduceMod, Nat.reduceEqDiff, Nat.reduceLeDiff, Nat.reduceLT, Int.reduceLT, Int.reduceLE, Int.reduceEq, Int.reduceToNat, reduceIte, reduceCtorEq, List.length_nil, List.map_nil, List.length_cons, List.map_cons, List.replicate_succ, List.replicate_zero, List.set_cons_zero, List.set_cons_succ, List.take_succ_cons, List.take_zero, List.take_nil, List.length_append, List.map_append, List.cons_append, List.nil_append, List.drop_succ_cons, List.drop_zero, List.append_nil, List.getElem?_cons_zero, List.getElem?_cons_succ, eq_self, true_implies, not_true_eq_false, not_false_eq_true, false_implies, and_true, true_and, decide_true, decide_false, Bool.not_true, Bool.not_false]
    exact ⟨bool_t ⟨⟨by omega, by omega, by omega, by omega, by omega⟩, by omega, g7⟩, _, rfl⟩
end Go.Proofs
/- once: an answer's bytes; whether an answer may be, by the document: walked. -/

set_option linter.all false
set_option maxRecDepth 100000
namespace Go.Proofs
open Go Go.Ev
variable {H : Heap}

theorem f54_ok {a : An} (h : a.ok H) : FnOk Try.prog 54 [.agg a.enc] H fun r G => r = .bool (decide (isAns a)) ∧ G = H := by
  refine FnOk.assume fun hok => ?_
  refine FnOk.drop (R := fun r => r = .bool (decide (isAns a))) ?_ (by rintro v rfl ρ; rw [AV.ren])
  refine FnOk.of_WW Try.func54 rfl C54ok R54ok E0 good_E0 ?_
  obtain ⟨code, val, ver, l, v⟩ := a
  obtain ⟨hA, hl⟩ := h
  simp only at hA hl
  have hlen := fun G => hA.len G
  simp only [List.length_map] at hlen
  have hren := hA.ren
  simp only [go_sem, C54, An.enc, Nat.reduceAdd, Nat.reduceSub, Nat.reduceMul, Nat.reduceDiv, Nat.reduceMod, Nat.reduceEqDiff, Nat.reduceLeDiff, Nat.reduceLT, Int.reduceLT, Int.reduceLE, Int.reduceEq, Int.reduceToNat, reduceIte, reduceCtorEq, List.length_nil, List.map_nil, List.length_cons, List.map_cons, List.replicate_succ, List.replicate_zero, List.set_cons_zero, List.set_cons_succ, List.take_succ_cons, List.take_zero, List.take_nil, List.length_append, List.map_append, List.cons_append, List.nil_append, List.drop_succ_cons, List.drop_zero, List.append_nil, List.getElem?_cons_zero, List.getElem?_cons_succ, eq_self, true_implies, not_true_eq_false, not_false_eq_true, false_implies, and_true, true_and, decide_true, decide_false, Bool.not_true, Bool.not_false, hlen]
  refine LL.st good_E0 (fun i : Nat => l.length - i) (fun i => i ≤ l.length ∧ ∀ j d, j < i → l[j]? = some d → ¬ badR d)
    (fun i => [((.o .z), .ptr (H.key 0) 0), ((.o (.o .z)), .int .i64 i)]) (fun i => [.row true 4 [[.int .i64 code, .str val, .int .i64 ver, v]]]) ?_ 0 (σ := [0]) (Wk.of rfl (by decide) (by simp only [go_sem, hren, List.length_nil, List.map_nil, List.length_cons, List.map_cons, List.replicate_succ, List.replicate_zero, List.set_cons_zero, List.set_cons_succ, List.take_succ_cons, List.take_zero, List.take_nil, List.length_append, List.map_append, List.cons_append, List.nil_append, List.drop_succ_cons, List.drop_zero, List.append_nil, List.getElem?_cons_zero, List.getElem?_cons_succ, Nat.reduceAdd, Nat.reduceSub, Nat.reduceMul, Nat.reduceDiv, Nat.reduceMod, Nat.reduceEqDiff, Nat.reduceLeDiff, Nat.reduceLT, Int.reduceLT, Int.reduceLE, Int.reduceEq, Int.reduceToNat, reduceIte, reduceCtorEq]) (by simp only [go_sem, hren, List.length_nil, List.map_nil, List.length_cons, List.map_cons, List.replicate_succ, List.replicate_zero, List.set_cons_zero, List.set_cons_succ, List.take_succ_cons, List.take_zero, List.take_nil, List.length_append, List.map_append, List.cons_append, List.nil_append, List.drop_succ_cons, List.drop_zero, List.append_nil, List.getElem?_cons_zero, List.getElem?_cons_succ, Nat.reduceAdd, Nat.reduceSub, Nat.reduceMul, Nat.reduceDiv, Nat.reduceMod, Nat.reduceEqDiff, Nat.reduceLeDiff, Nat.reduceLT, Int.reduceLT, Int.reduceLE, Int.reduceEq, Int.reduceToNat, reduceIte, reduceCtorEq, eq_self, true_implies, not_true_eq_false, not_false_eq_true, false_implies, and_true, true_and, decide_true, decide_false, Bool.not_true, Bool.not_false])) ⟨Nat.zero_le _, fun j d h => absurd h (Nat.not_lt_zero _)⟩
  rintro i ⟨hi, hno⟩
  by_cases hlt : i < l.length
  · obtain ⟨kk, r, ex', cap', wr, rows, hv, hrho, hgo, hrow⟩ := hA.at hok (j := i) (by rw [List.length_map]; exact hlt); simp only [List.length_map, List.getElem_map] at hv hrow; cases hv; have hget : l[i]? = some l[i] := List.getElem?_eq_getElem hlt; generalize l[i] = c at hrow hget; have hw := wrap_succ (n := i) (by omega); have hci : (i : Int) < (l.length : Int) := (by omega); have hsi : i + 1 ≤ l.length := (by omega)
    have hbad : badR c → AV.bool false = .bool (decide (isAns ⟨code, val, ver, l, .slice kk (r * 3) l.length 3 ex' cap'⟩)) := fun g => bool_f fun e => e.2.2 ⟨c, List.mem_of_getElem? hget, g⟩
    simp only [go_sem, C54L0, Nat.reduceAdd, Nat.reduceSub, Nat.reduceMul, Nat.reduceDiv, Nat.reduceMod, Nat.reduceEqDiff, Nat.reduceLeDiff, Nat.reduceLT, Int.reduceLT, Int.reduceLE, Int.reduceEq, Int.reduceToNat, reduceIte, reduceCtorEq, List.length_nil, List.map_nil, List.length_cons, List.map_cons, List.replicate_succ, List.replicate_zero, List.set_cons_zero, List.set_cons_succ, List.take_succ_cons, List.take_zero, List.take_nil, List.length_append, List.map_append, List.cons_append, List.nil_append, List.drop_succ_cons, List.drop_zero, List.append_nil, List.getElem?_cons_zero, List.getElem?_cons_succ, eq_self, true_implies, not_true_eq_false, not_false_eq_true, false_implies, and_true, true_and, decide_true, decide_false, Bool.not_true, Bool.not_false, hci, hsi, hgo, hrow, hw, hlen, Rw.enc]
    refine ⟨fun g => ⟨hbad (.inl g), _, rfl⟩, fun g1 => ⟨fun g => ⟨hbad (.inr (.inl g)), _, rfl⟩, fun g2 => ⟨fun g => ⟨hbad (.inr (.inr (.inl g))), _, rfl⟩, fun g3 => ⟨fun g => ⟨hbad (.inr (.inr (.inr g))), _, rfl⟩, fun g4 => ?_⟩⟩⟩⟩
    refine ⟨i + 1, by show l.length - (i + 1) < l.length - i; omega, ⟨by omega, fun j d hj hd => ?_⟩, _, [0], rfl, Wk.of rfl (by decide) (by simp only [go_sem, hren, hrho, hw, List.length_nil, List.map_nil, List.length_cons, List.map_cons, List.replicate_succ, List.replicate_zero, List.set_cons_zero, List.set_cons_succ, List.take_succ_cons, List.take_zero, List.take_nil, List.length_append, List.map_append, List.cons_append, List.nil_append, List.drop_succ_cons, List.drop_zero, List.append_nil, List.getElem?_cons_zero, List.getElem?_cons_succ, Nat.reduceAdd, Nat.reduceSub, Nat.reduceMul, Nat.reduceDiv, Nat.reduceMod, Nat.reduceEqDiff, Nat.reduceLeDiff, Nat.reduceLT, Int.reduceLT, Int.reduceLE, Int.reduceEq, Int.reduceToNat, reduceIte, reduceCtorEq]) (by simp only [go_sem, hren, hrho, List.length_nil, List.map_nil, List.length_cons, List.map_cons, List.replicate_succ, List.replicate_zero, List.set_cons_zero, List.set_cons_succ, List.take_succ_cons, List.take_zero, List.take_nil, List.length_append, List.map_append, List.cons_append, List.nil_append, List.drop_succ_cons, List.drop_zero, List.append_nil, List.getElem?_cons_zero, List.getElem?_cons_succ, Nat.reduceAdd, Nat.reduceSub, Nat.reduceMul, Nat.reduceDiv, Nat.reduceMod, Nat.reduceEqDiff, Nat.reduceLeDiff, Nat.reduceLT, Int.reduceLT, Int.reduceLE, Int.reduceEq, Int.reduceToNat, reduceIte, reduceCtorEq, eq_self, true_implies, not_true_eq_false, not_false_eq_true, false_implies, and_true, true_and, decide_true, decide_false, Bool.not_true, Bool.not_false])⟩
    rcases Nat.lt_or_ge j i with h | h
    · exact hno j d h hd
    · obtain rfl : j = i := by omega
      rw [hget] at hd; cases hd
      rintro (h | h | h | h)
      · exact g1 h
      · exact g2 h
      · exact g3 h
      · exact g4 h
  · have hci : ¬ (i : Int) < (l.length : Int) := by omega
    have hnb : ¬ anyBad l := by
      rintro ⟨d, hd, hb⟩
      obtain ⟨j, hj⟩ := List.mem_iff_getElem?.1 hd
      exact absurd hb (hno j d (by have := (List.getElem?_eq_some_iff.1 hj).1; omega) hj)
    simp only [go_sem, C54L0, Nat.reduceAdd, Nat.reduceSub, Nat.reduceMul, Nat.reduceDiv, Nat.reduceMod, Nat.reduceEqDiff, Nat.reduceLeDiff, Nat.reduceLT, Int.reduceLT, Int.reduceLE, Int.reduceEq, Int.reduceToNat, reduceIte, reduceCtorEq, List.length_nil, List.map_nil, List.length_cons, List.map_cons, List.replicate_succ, List.replicate_zero, List.set_cons_zero, List.set_cons_succ, List.take_succ_cons, List.take_zero, List.take_nil, List.length_append, List.map_append, List.cons_append, List.nil_append, List.drop_succ_cons, List.drop_zero, List.append_nil, List.getElem?_cons_zero, List.getElem?_cons_succ, eq_self, true_implies, not_true_eq_false, not_false_eq_true, false_implies, and_true, true_and, decide_true, decide_false, Bool.not_true, Bool.not_false, hci, hlen]
    refine ⟨fun g1 => ⟨fun g2 => ⟨fun g3 => ⟨fun g4 => ⟨fun g5 => ⟨fun g6 => ⟨bool_t ⟨⟨g1, g2, g3, g4, g5⟩, g6, hnb⟩, _, rfl⟩, fun g => ⟨bool_f fun e => g e.2.1, _, rfl⟩⟩, fun g => ⟨bool_f fun e => g e.1.2.2.2.2, _, rfl⟩⟩, fun g => ⟨bool_f fun e => g e.1.2.2.2.1, _, rfl⟩⟩, fun g => ⟨bool_f fun e => g e.1.2.2.1, _, rfl⟩⟩, fun g => ⟨bool_f fun e => g e.1.2.1, _, rfl⟩⟩, fun g => ⟨bool_f fun e => g e.1.1, _, rfl⟩⟩
noncomputable def EO1 : FuncId → List AV → Heap → RC
  | 69, [.int .i64 n], H => if 0 ≤ n ∧ n < 9223372036854775808 then .ok (.str (numT n.toNat)) H else .fail
  | 70, [.str s], H => if s.length < 4611686018427387904 then .ok (.str (textT s)) H else .fail
  | _, _, _ => .fail
theorem good_EO1 : Ev.Good Try.prog EO1 := by
  intro f args H r G he φ w args' ha hw
  refine (?_ : FnOk Try.prog f args H fun v' G' => v' = r ∧ G' = G).one φ w args' ha hw
  unfold EO1 at he
  split at he
  · rename_i n
    split at he
    · rename_i hn
      cases he
      have := f69_ok (H := H) (n := n.toNat) (by omega)
      rwa [Int.toNat_of_nonneg hn.1] at this
    · cases he
  · split at he
    · rename_i hs
      cases he
      exact f70_ok hs
    · cases he
  · cases he
theorem e69 {n : Int} (h0 : 0 ≤ n) (h1 : n < 9223372036854775808) (H : Heap) : EO1 69 [.int .i64 n] H = .ok (.str (numT n.toNat)) H := if_pos ⟨h0, h1⟩
theorem e70 {s : List Nat} (h : s.length < 4611686018427387904) (H : Heap) : EO1 70 [.str s] H = .ok (.str (textT s)) H := if_pos h
def rowT (r : Rw) : List Nat := (textT r.k ++ textT r.v) ++ numT r.ver.toNat
def headT (a : An) : List Nat := ((numT a.code.toNat ++ textT a.val) ++ numT a.ver.toNat) ++ numT a.rows.length
def ansP (a : An) (i : Nat) : List Nat := (a.rows.take i).foldl (fun s r => s ++ rowT r) (headT a)
noncomputable def ansT (a : An) : List Nat := open Classical in if isAns a then ansP a a.rows.length else []
theorem ansP_succ {a : An} {i : Nat} {c : Rw} (h : a.rows[i]? = some c) : ansP a (i + 1) = ansP a i ++ rowT c := by
  obtain ⟨hl, rfl⟩ := List.getElem?_eq_some_iff.1 h
  unfold ansP
  rw [List.take_succ_eq_append_getElem hl, List.foldl_append]; rfl
theorem textT_len {s : List Nat} (h : (s.length : Int) ≤ 255) : (textT s).length ≤ 266 := by
  unfold textT
  rw [List.length_append]
  have := numT_small (n := s.length) (by omega)
  omega
theorem foldl_len (l : List Rw) : ∀ s : List Nat, s.length ≤ (l.foldl (fun s r => s ++ rowT r) s).length := by
  induction l with
  | nil => intro s; exact Nat.le_refl _
  | cons r l ih =>
    intro s
    refine Nat.le_trans ?_ (ih _)
    rw [List.length_append]; omega
theorem ansT_nil {a : An} : ansT a = [] ↔ ¬ isAns a := by
  unfold ansT
  by_cases h : isAns a
  · rw [if_pos h]
    refine ⟨fun e => ?_, fun g => absurd h g⟩
    have h1 := foldl_len (a.rows.take a.rows.length) (headT a)
    have h2 : (headT a).length = 0 := by
      have := congrArg List.length e
      unfold ansP at this
      rw [this] at h1
      simpa using h1
    unfold headT at h2
    have := numT_pos a.rows.length
    simp only [List.length_append] at h2
    omega
  · rw [if_neg h]; exact ⟨fun _ => h, fun _ => rfl⟩
theorem f53_ok {a : An} (h : a.ok H) : FnOk Try.prog 53 [.agg a.enc] H fun r G => r = .str (ansT a) ∧ G = H := by
  refine FnOk.assume fun hok => ?_
  refine FnOk.drop (R := fun r => r = .str (ansT a)) ?_ (by rintro v rfl ρ; rw [AV.ren])
  refine FnOk.of_WW Try.func53 rfl C53ok R53ok EO1 good_EO1 ?_
  have hans : isAns a → ansT a = ansP a a.rows.length := fun g => by unfold ansT; rw [if_pos g]
  have hnot : ¬ isAns a → ansT a = [] := ansT_nil.2
  have hsucc := @ansP_succ a
  have h0 : ansP a 0 = headT a := rfl
  have hbox := h
  obtain ⟨hA, hl⟩ := h
  have hlen := fun G => hA.len G
  simp only [List.length_map] at hlen
  have hren := hA.ren
  simp only [go_sem, C53, An.enc, Nat.reduceAdd, Nat.reduceSub, Nat.reduceMul, Nat.reduceDiv, Nat.reduceMod, Nat.reduceEqDiff, Nat.reduceLeDiff, Nat.reduceLT, Int.reduceLT, Int.reduceLE, Int.reduceEq, Int.reduceToNat, reduceIte, reduceCtorEq, List.length_nil, List.map_nil, List.length_cons, List.map_cons, List.replicate_succ, List.replicate_zero, List.set_cons_zero, List.set_cons_succ, List.take_succ_cons, List.take_zero, List.take_nil, List.length_append, List.map_append, List.cons_append, List.nil_append, List.drop_succ_cons, List.drop_zero, List.append_nil, List.getElem?_cons_zero, List.getElem?_cons_succ, eq_self, true_implies, not_true_eq_false, not_false_eq_true, false_implies, and_true, true_and, decide_true, decide_false, Bool.not_true, Bool.not_false]
  refine CL.bool (f68_ok (a := a) (hbox.ext _)) (fun g => ?_) (fun g => ?_)
  · have hnb : ∀ r ∈ a.rows, ¬ badR r := fun r hr hb => g.2.2 ⟨r, hr, hb⟩
    have hr16 := g.2.1
    obtain ⟨c1, c2, c3, c4, c5⟩ := g.1
    have x1 := fun G => e69 c1 (by omega) G
    have x2 := fun G => e70 (s := a.val) (by omega) G
    have x3 := fun G => e69 c3 (by omega) G
    have x4 := fun G => e69 (n := (a.rows.length : Int)) (by omega) (by omega) G
    rw [Int.toNat_natCast] at x4
    have n1 := numT_small (n := a.code.toNat) (by omega)
    have n2 := textT_len c5
    have n3 := numT_small (n := a.ver.toNat) (by omega)
    have n4 := numT_small (n := a.rows.length) (by omega)
    have m1 : (numT a.code.toNat).length + (textT a.val).length ≤ 9223372036854775807 := by omega
    have m2 : (numT a.code.toNat).length + (textT a.val).length + (numT a.ver.toNat).length ≤ 9223372036854775807 := by omega
    have m3 : (numT a.code.toNat).length + (textT a.val).length + (numT a.ver.toNat).length + (numT a.rows.length).length ≤ 9223372036854775807 := by omega
    have mh : (headT a).length ≤ 1000 := by unfold headT; rw [List.length_append, List.length_append, List.length_append]; omega
    have hhead : numT a.code.toNat ++ textT a.val ++ numT a.ver.toNat ++ numT a.rows.length = headT a := rfl
    simp only [go_sem, Nat.reduceAdd, Nat.reduceSub, Nat.reduceMul, Nat.reduceDiv, Nat.reduceMod, Nat.reduceEqDiff, Nat.reduceLeDiff, Nat.reduceLT, Int.reduceLT, Int.reduceLE, Int.reduceEq, Int.reduceToNat, reduceIte, reduceCtorEq, eq_self, true_implies, not_true_eq_false, not_false_eq_true, false_implies, and_true, true_and, decide_true, decide_false, Bool.not_true, Bool.not_false, List.getElem?_cons_zero, List.drop_succ_cons, List.take_succ_cons, List.take_zero, List.drop_zero, hlen, x1, x2, x3, x4, m1, m2, m3, hhead]
    have hfin := hans g
    obtain ⟨code, val, ver, l, v⟩ := a
    simp only at hA hl hlen hren hnb hr16 hfin hsucc
    refine LL.st good_EO1 (fun i : Nat => l.length - i) (fun i => i ≤ l.length ∧ (ansP ⟨code, val, ver, l, v⟩ i).length ≤ 1000 + 1000 * i)
      (fun i => [((.o (.o .z)), .str (ansP ⟨code, val, ver, l, v⟩ i)), ((.i (.i (.o (.i .z)))), v), ((.o (.o (.i (.i .z)))), .int .i64 l.length), ((.i (.o (.i (.i .z)))), .int .i64 i)]) (fun i => []) ?_ 0 (σ := []) (Wk.of rfl (by decide) (by simp only [go_sem, hren, h0, List.length_nil, List.map_nil, List.length_cons, List.map_cons, List.replicate_succ, List.replicate_zero, List.set_cons_zero, List.set_cons_succ, List.take_succ_cons, List.take_zero, List.take_nil, List.length_append, List.map_append, List.cons_append, List.nil_append, List.drop_succ_cons, List.drop_zero, List.append_nil, List.getElem?_cons_zero, List.getElem?_cons_succ, Nat.reduceAdd, Nat.reduceSub, Nat.reduceMul, Nat.reduceDiv, Nat.reduceMod, Nat.reduceEqDiff, Nat.reduceLeDiff, Nat.reduceLT, Int.reduceLT, Int.reduceLE, Int.reduceEq, Int.reduceToNat, reduceIte, reduceCtorEq]) (by simp only [go_sem, List.length_nil, List.map_nil, List.length_cons, List.map_cons, List.replicate_succ, List.replicate_zero, List.set_cons_zero, List.set_cons_succ, List.take_succ_cons, List.take_zero, List.take_nil, List.length_append, List.map_append, List.cons_append, List.nil_append, List.drop_succ_cons, List.drop_zero, List.append_nil, List.getElem?_cons_zero, List.getElem?_cons_succ, Nat.reduceAdd, Nat.reduceSub, Nat.reduceMul, Nat.reduceDiv, Nat.reduceMod, Nat.reduceEqDiff, Nat.reduceLeDiff, Nat.reduceLT, Int.reduceLT, Int.reduceLE, Int.reduceEq, Int.reduceToNat, reduceIte, reduceCtorEq, eq_self, true_implies, not_true_eq_false, not_false_eq_true, false_implies, and_true, true_and, decide_true, decide_false, Bool.not_true, Bool.not_false])) ⟨Nat.zero_le _, by rw [h0]; omega⟩
    rintro i ⟨hi, hpl⟩
    by_cases hlt : i < l.length
    · generalize hP : ansP ⟨code, val, ver, l, v⟩ = P at *
      obtain ⟨kk, r, ex', cap', wr, rows, hv, hrho, hgo, hrow⟩ := hA.at hok (j := i) (by rw [List.length_map]; exact hlt); simp only [List.length_map, List.getElem_map] at hv hrow; cases hv; have hget : l[i]? = some l[i] := List.getElem?_eq_getElem hlt; generalize l[i] = c at hrow hget; have hw := wrap_succ (n := i) (by omega); have hci : (i : Int) < (l.length : Int) := (by omega); have hsi : i + 1 ≤ l.length := (by omega)
      have hb := hnb c (List.mem_of_getElem? hget)
      have hs := hsucc hget
      have b1 : (c.k.length : Int) ≤ 255 := Int.not_lt.1 fun e => hb (.inl e)
      have b2 : (c.v.length : Int) ≤ 255 := Int.not_lt.1 fun e => hb (.inr (.inl e))
      have b3 : 0 ≤ c.ver := Int.not_lt.1 fun e => hb (.inr (.inr (.inl e)))
      have b4 : c.ver < 281474976710656 := Int.not_le.1 fun e => hb (.inr (.inr (.inr e)))
      have y1 := fun G => e70 (s := c.k) (by omega) G
      have y2 := fun G => e70 (s := c.v) (by omega) G
      have y3 := fun G => e69 b3 (by omega) G
      have n1 := textT_len b1
      have n2 := textT_len b2
      have n3 := numT_small (n := c.ver.toNat) (by omega)
      have q1 : (textT c.k).length + (textT c.v).length ≤ 9223372036854775807 := by omega
      have q2 : (textT c.k).length + (textT c.v).length + (numT c.ver.toNat).length ≤ 9223372036854775807 := by omega
      have q3 : (P i).length + ((textT c.k).length + (textT c.v).length + (numT c.ver.toNat).length) ≤ 9223372036854775807 := by omega
      have hrow2 : textT c.k ++ textT c.v ++ numT c.ver.toNat = rowT c := rfl
      have hrl : (rowT c).length = (textT c.k).length + (textT c.v).length + (numT c.ver.toNat).length := by unfold rowT; rw [List.length_append, List.length_append]
      simp only [go_sem, C53L0, Nat.reduceAdd, Nat.reduceSub, Nat.reduceMul, Nat.reduceDiv, Nat.reduceMod, Nat.reduceEqDiff, Nat.reduceLeDiff, Nat.reduceLT, Int.reduceLT, Int.reduceLE, Int.reduceEq, Int.reduceToNat, reduceIte, reduceCtorEq, List.length_nil, List.map_nil, List.length_cons, List.map_cons, List.replicate_succ, List.replicate_zero, List.set_cons_zero, List.set_cons_succ, List.take_succ_cons, List.take_zero, List.take_nil, List.length_append, List.map_append, List.cons_append, List.nil_append, List.drop_succ_cons, List.drop_zero, List.append_nil, List.getElem?_cons_zero, List.getElem?_cons_succ, eq_self, true_implies, not_true_eq_false, not_false_eq_true, false_implies, and_true, true_and, decide_true, decide_false, Bool.not_true, Bool.not_false, hci, hsi, hgo, hrow, hw, Rw.enc, y1, y2, y3, q1, q2, q3, hrow2]
      refine ⟨by omega, i + 1, by show l.length - (i + 1) < l.length - i; omega, ⟨by omega, ?_⟩, _, [], rfl, Wk.of rfl (by decide) (by simp only [go_sem, hrho, hw, hs, List.length_nil, List.map_nil, List.length_cons, List.map_cons, List.replicate_succ, List.replicate_zero, List.set_cons_zero, List.set_cons_succ, List.take_succ_cons, List.take_zero, List.take_nil, List.length_append, List.map_append, List.cons_append, List.nil_append, List.drop_succ_cons, List.drop_zero, List.append_nil, List.getElem?_cons_zero, List.getElem?_cons_succ, Nat.reduceAdd, Nat.reduceSub, Nat.reduceMul, Nat.reduceDiv, Nat.reduceMod, Nat.reduceEqDiff, Nat.reduceLeDiff, Nat.reduceLT, Int.reduceLT, Int.reduceLE, Int.reduceEq, Int.reduceToNat, reduceIte, reduceCtorEq]) (by simp only [go_sem, List.length_nil, List.map_nil, List.length_cons, List.map_cons, List.replicate_succ, List.replicate_zero, List.set_cons_zero, List.set_cons_succ, List.take_succ_cons, List.take_zero, List.take_nil, List.length_append, List.map_append, List.cons_append, List.nil_append, List.drop_succ_cons, List.drop_zero, List.append_nil, List.getElem?_cons_zero, List.getElem?_cons_succ, Nat.reduceAdd, Nat.reduceSub, Nat.reduceMul, Nat.reduceDiv, Nat.reduceMod, Nat.reduceEqDiff, Nat.reduceLeDiff, Nat.reduceLT, Int.reduceLT, Int.reduceLE, Int.reduceEq, Int.reduceToNat, reduceIte, reduceCtorEq, eq_self, true_implies, not_true_eq_false, not_false_eq_true, false_implies, and_true, true_and, decide_true, decide_false, Bool.not_true, Bool.not_false])⟩
      rw [hs, List.length_append]
      omega
    · have hci : ¬ (i : Int) < (l.length : Int) := by omega
      simp only [go_sem, C53L0, Nat.reduceAdd, Nat.reduceSub, Nat.reduceMul, Nat.reduceDiv, Nat.reduceMod, Nat.reduceEqDiff, Nat.reduceLeDiff, Nat.reduceLT, Int.reduceLT, Int.reduceLE, Int.reduceEq, Int.reduceToNat, reduceIte, reduceCtorEq, List.length_nil, List.map_nil, List.length_cons, List.map_cons, List.replicate_succ, List.replicate_zero, List.set_cons_zero, List.set_cons_succ, List.take_succ_cons, List.take_zero, List.take_nil, List.length_append, List.map_append, List.cons_append, List.nil_append, List.drop_succ_cons, List.drop_zero, List.append_nil, List.getElem?_cons_zero, List.getElem?_cons_succ, eq_self, true_implies, not_true_eq_false, not_false_eq_true, false_implies, and_true, true_and, decide_true, decide_false, Bool.not_true, Bool.not_false, hci]
      rw [hfin, show i = l.length by omega]
      exact ⟨rfl, _, rfl⟩
  · simp only [go_sem, Nat.reduceAdd, Nat.reduceSub, Nat.reduceMul, Nat.reduceDiv, Nat.reduceMod, Nat.reduceEqDiff, Nat.reduceLeDiff, Nat.reduceLT, Int.reduceLT, Int.reduceLE, Int.reduceEq, Int.reduceToNat, reduceIte, reduceCtorEq, List.length_nil, List.map_nil, List.length_cons, List.map_cons, List.replicate_succ, List.replicate_zero, List.set_cons_zero, List.set_cons_succ, List.take_succ_cons, List.take_zero, List.take_nil, List.length_append, List.map_append, List.cons_append, List.nil_append, List.drop_succ_cons, List.drop_zero, List.append_nil, List.getElem?_cons_zero, List.getElem?_cons_succ, eq_self, true_implies, not_true_eq_false, not_false_eq_true, false_implies, and_true, true_and, decide_true, decide_false, Bool.not_true, Bool.not_false]
    rw [hnot g]
    exact ⟨rfl, _, rfl⟩
end Go.Proofs
