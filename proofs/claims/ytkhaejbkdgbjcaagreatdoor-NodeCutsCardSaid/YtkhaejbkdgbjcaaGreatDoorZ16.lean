/- The told package variable: what a law's condition gives; a world that meets it. -/
import Derived.Test.YtkhaejbkdgbjcaaGreatDoorZ15
import Derived.Test.YtkhaejbkdgbjcaaGreatDoorProg
import Derived.Test.YtkhaejbkdgbjcaaGreatDoorRows
import Derived.Test.YtkhaejbkdgbjcaaGreatDoorTie
import Derived.KernelRfl
import Derived.ChangeSame
import Derived.ChangeVars
import Derived.RowKit
import Derived.LaidLaws
import Derived.LaidHandle
import Derived.SevenTiedAt
import Derived.JoinedOf
set_option linter.all false
set_option maxRecDepth 100000
namespace Go.Proofs.YtkhaejbkdgbjcaaGreatDoor
open Go Go.Ev Go.ChangeShapes Go.WideShapes Go.ChangeAt Go.RowKit
theorem Tryz.own : ownKnob Tryz.prog.godebug = none := by kernel_rfl
theorem Tryz.laidOut : laidOutB Tryz.prog = true := by kernel_rfl
theorem Tryz.et : Tryz.prog.globalNamed "errors.errorType" = some 0 := by kernel_rfl
theorem Tryz.rt : (Tryz.prog.cutTypes.find? (·.1 == "internal/reflectlite.rtype")).map (·.2) = some 242 := by kernel_rfl
theorem Tryz.size : Tryz.prog.types.size = 389 := by kernel_rfl
theorem Tryz.oneRow : ((List.range 389).filter fun t => Tryz.prog.rowNamed t [101, 114, 114, 111, 114]) = [72] := by kernel_rfl
/-- what is told -/
def laid0 : List (String × DataW Unit) := [("errors.errorType", Rows.laid_errors_errorType)]
/-- the variable's one cell -/
theorem handle_of_laid {W : World} (h : laidMetH Tryz.prog laid0 W) : W.cell? ⟨0, 0, none⟩ = some (.iface 242 (.agg #[.pointer (some ⟨2, 72, none⟩)])) := by
  have h' : laidMet Tryz.prog [] W ∧ handlesMet Tryz.prog laid0 W := h
  obtain ⟨name, u, ty, e1, e2, e3, e4, e5⟩ := h'.2 _ (List.mem_singleton.2 rfl)
  have en : name = [101, 114, 114, 111, 114] := (Option.some.inj e1).symm
  subst en
  obtain rfl := Option.some.inj (Tryz.rt.symm.trans e2)
  have hm : ty ∈ (List.range 389).filter fun t => Tryz.prog.rowNamed t [101, 114, 114, 111, 114] := List.mem_filter.2 ⟨List.mem_range.2 (by rw [← Tryz.size]; exact e3), e4⟩
  rw [Tryz.oneRow] at hm
  obtain rfl := List.mem_singleton.1 hm
  have hh : typeHandle Tryz.prog 72 = .pointer (some ⟨2, 72, none⟩) := by kernel_rfl
  rw [hh] at e5
  simpa using World.var?_cell Tryz.et e5 0
theorem rom_of_laid {W : World} (h : laidMetH Tryz.prog laid0 W) : ∀ g v, (g, v) ∈ romOf → W.cell? ⟨g, 0, none⟩ = some v := by
  intro g v hm
  have hm : (g, v) ∈ [(0, Value.iface 242 (.agg #[.pointer (some ⟨2, 72, none⟩)]))] := hm
  cases List.mem_singleton.1 hm
  exact handle_of_laid h
/-- a world that meets it -/
noncomputable def laidWorld (os : Os) : World :=
  let w0 := World.holding Tryz.prog os ⟨#[], #[], []⟩
  { w0 with heap := w0.heap.modify 0 fun
      | .cells _ t frozen => .cells #[.iface 242 (.agg #[.pointer (some ⟨2, 72, none⟩)])] t frozen
      | o => o }
theorem laidWorld_met (os : Os) (args : Array Value) : laidMetH Tryz.prog laid0 ((laidWorld os).forCall (fun _ _ => 0) ⟨#[], args, []⟩).memory :=
  laidMetH_of_parts (laidMet_nil _ _) (by kernel_rfl)
end Go.Proofs.YtkhaejbkdgbjcaaGreatDoor
/- Numbers that are given, opened. -/

set_option linter.all false
set_option maxRecDepth 100000
namespace Go.Ev
open Go.ChangeShapes Go.WideShapes Go.RowKit
variable {P : Program} {W : World}
/-- a byte that is given -/
theorem open_u8 {r : Reach} {b0 : Nat} {t : TypeId} {v : Value} (ht : P.underlying t = some (.int .u8)) (h : Value.okWide P W r b0 t v) : ∃ n : Nat, n ≤ 255 ∧ v = .int .u8 n := by
  obtain ⟨m, rfl⟩ := okWide_int ht h
  simp only [Value.okWide, ht, Cell.okWide, Cell.ok] at h
  have h1 : (0 : Int) ≤ m := h.2.1
  have h2 : m ≤ (255 : Int) := h.2.2
  obtain ⟨n, rfl⟩ := Int.eq_ofNat_of_zero_le h1
  exact ⟨n, by omega, rfl⟩
end Go.Ev
/- Conversions, as rules. -/

set_option linter.all false
namespace Go.Ev
@[go_sem] theorem convR_int (k : IntKind) (x : X) (T : Tr AV) (H : Heap) : convR (.int k) x T H = withX T x .fail fun v => asIntC v .fail fun _ n => wrapC k n fun n => .val (.int k n) H := rfl
@[go_sem] theorem convR_b2s (x : X) (T : Tr AV) (H : Heap) : convR .b2s x T H = withX T x .fail fun v => asSliceC v .fail (.val (.str []) H) fun k off len _ _ _ => loadC H k off len .fail fun l => bytesC l .fail fun ns => .val (.str ns) H := rfl
end Go.Ev
/- Slices that may be nil, handled as one: rules. -/

set_option linter.all false
namespace Go.Ev
variable {P : Program} {H : Heap}
theorem outV_ren' (ρ : K → K) (k : K) (e n : Nat) : AV.ren ρ (outV k e n) = outV (ρ k) e n := by
  cases n with
  | zero => show AV.ren ρ .nils = .nils; rw [AV.ren]
  | succ n => show AV.ren ρ (.slice k 0 (n + 1) e false (n + 1)) = .slice (ρ k) 0 (n + 1) e false (n + 1); rw [AV.ren]
theorem outB_ren' (ρ : K → K) {e : Nat} {xs : List (List AV)} (h : xs.map (AV.rens ρ) = xs) : Blk.ren ρ (outB e xs) = outB e xs := by
  cases xs with
  | nil => rfl
  | cons x xs => show Blk.row true e ((x :: xs).map (AV.rens ρ)) = Blk.row true e (x :: xs); rw [h]
theorem outB_pos {e : Nat} {xs : List (List AV)} (h : 0 < xs.length) : outB e xs = .row true e xs := by
  cases xs with
  | nil => exact absurd h (by decide)
  | cons x xs => rfl
@[go_sem] theorem len_out (k : K) (e n : Nat) (G : Heap) : asSliceC (outV k e n) R1.fail (R1.val (AV.int IntKind.i64 0) G) (fun _ _ len _ _ _ => R1.val (AV.int IntKind.i64 (len : Int)) G) = R1.val (.int .i64 n) G := by
  cases n with
  | zero => rfl
  | succ n => rfl
theorem Arr.len {v : AV} {esz : Nat} {xs : List (List AV)} (h : Arr H esz v xs) (G : Heap) : asSliceC v R1.fail (R1.val (AV.int IntKind.i64 0) G) (fun _ _ len _ _ _ => R1.val (AV.int IntKind.i64 (len : Int)) G) = R1.val (.int .i64 xs.length) G := by
  rcases h.forms with ⟨rfl, rfl⟩ | ⟨k, off, ex, cap, rfl, _⟩ <;> rfl
theorem Arr.at {v : AV} {esz : Nat} {xs : List (List AV)} (hok : H.ok) (h : Arr H esz v xs) {j : Nat} (hj : j < xs.length) : ∃ k r ex cap wr rows, v = .slice k (r * esz) xs.length esz ex cap ∧ (∀ top σ, rho H top σ k = k) ∧ (∀ L, (H.ext L).get k = some (.row wr esz rows)) ∧ rows[r + j]? = some xs[j] := by
  obtain ⟨k, r, ex, cap, wr, rows, e, hk, hg, _, hat⟩ := h.pick hj
  exact ⟨k, r, ex, cap, wr, rows, e, fun _ _ => rho_old hk, Heap.get_ext_old hok hg, by rw [hat j hj, List.getElem?_eq_getElem hj]⟩
theorem bytesC_one {β : Type} {m : Nat} (h : m ≤ 255) (f : β) (c : List Nat → β) : bytesC [.int .u8 (m : Int)] f c = c [m] := by
  show bif' (Nat.beq (kn .u8) 4) (bif' (Nat.ble m 255) (c [m]) f) f = c [m]
  rw [show Nat.beq (kn .u8) 4 = true from rfl, bif_true, show Nat.ble m 255 = true by rw [Nat.ble_eq]; exact h, bif_true]
theorem wrap_u8 {m : Nat} (h : m ≤ 255) : IntKind.u8.wrap (m : Int) = m := wrap_nat .u8 m h
/-- one more put behind a list that may be none: the old block is let go -/
theorem appR_out {L : List Blk} {i j n esz bytes : Nat} {xs : List (List AV)} {y : List AV} {x z : X} {T : Tr AV} {wr ex : Bool} {cap : Nat} (hx : evX T x = some (outV (H.key i) esz n)) (hz : evX T z = some (.slice (H.key j) 0 1 esz ex cap))
    (hi : L[i]? = some (outB esz xs)) (hn : xs.length = n) (hj : L[j]? = some (.row wr esz [y])) (hb : okBig (n + 1) bytes = true) :
    appR esz bytes x z T (H.ext L) = .val (outV (H.key L.length) esz (n + 1)) (H.ext (L.set i .dead ++ [outB esz (xs ++ [y])])) := by
  have hxw : ∀ {f : R1} {c : AV → R1}, withX T x f c = c (outV (H.key i) esz n) := by intro f c; unfold withX; rw [hx]
  have hzw : ∀ {f : R1} {c : AV → R1}, withX T z f c = c (.slice (H.key j) 0 1 esz ex cap) := by intro f c; unfold withX; rw [hz]
  have hil := (List.getElem?_eq_some_iff.1 hi).1
  have hjl := (List.getElem?_eq_some_iff.1 hj).1
  have hb1 : (2 * (n + 1) + 192) * bytes ≤ 281474976710656 := by unfold okBig at hb; rwa [Nat.ble_eq] at hb
  unfold appR
  rw [hxw, hzw]
  cases xs with
  | nil =>
    obtain rfl : n = 0 := hn.symm
    have hset : L.set i .dead = L := by
      refine List.ext_getElem? fun m => ?_
      rw [List.getElem?_set]
      split
      · rename_i hm; subst hm; rw [hi]; first | rfl | (rw [if_pos hil]; rfl)
      · rfl
    simp only [go_sem, Heap.get_ext_key _ _ _ hjl, hj, List.drop_zero, List.take_succ_cons, List.take_zero, List.length_cons, List.length_nil, Nat.zero_mod, Nat.zero_div, Nat.reduceAdd, Nat.reduceSub, Nat.reduceMul, Nat.reduceDiv, Nat.reduceMod, Nat.reduceEqDiff, Nat.reduceLeDiff, Nat.reduceLT, reduceIte, hset, List.nil_append]
    rw [if_pos (by simpa using hb1)]
  | cons a xs =>
    subst hn
    rw [outV_pos (by simp)]
    simp only [go_sem, Heap.get_ext_key _ _ _ hjl, Heap.get_ext_key _ _ _ hil, hi, hj, List.drop_zero, List.take_succ_cons, List.take_zero, List.length_cons, List.length_nil, Nat.zero_mod, Nat.zero_div, Nat.reduceAdd, Nat.reduceSub, Nat.reduceMul, Nat.reduceDiv, Nat.reduceMod, Nat.reduceEqDiff, Nat.reduceLeDiff, Nat.reduceLT, reduceIte, List.take_length, List.cons_append]
    rw [if_pos (Nat.le_refl _), if_neg (by omega), if_pos (by simpa using hb1), Heap.setC_ext _ _ _ _ _ hil, Heap.addC_ext, List.length_set]
/-- an append whose operands are seen, left as it is -/
noncomputable def appQ (esz bytes : Nat) (a b : Option AV) (H : Heap) : R1 := match a, b with
  | some v, some w => appR esz bytes (.c v) (.c w) .lf H
  | _, _ => .fail
theorem appR_hide (esz bytes : Nat) (a b : K) (T : Tr AV) (H : Heap) : appR esz bytes (.t a) (.t b) T H = appQ esz bytes (T.get a) (T.get b) H := by
  unfold appR appQ
  simp only [withX_t, withX_c]
  cases T.get a <;> cases T.get b <;> rfl
theorem okBig_le {n bytes : Nat} (h : n ≤ 1000000000) (hb : bytes ≤ 1000) : okBig n bytes = true := by
  unfold okBig
  rw [Nat.ble_eq]
  exact Nat.le_trans (Nat.mul_le_mul (Nat.add_le_add (Nat.mul_le_mul (Nat.le_refl 2) h) (Nat.le_refl _)) hb) (by decide)
/-- the same, ahead of what is still to be done -/
theorem RW_app {E : FuncId → List AV → Heap → RC} {N : Nat} {k : List It} {Q : Ex → Tr AV → Heap → Prop} {d : Option K} {T' : Tr AV} {G : Heap} {L : List Blk} {esz bytes i j n : Nat} (xs : List (List AV)) (y : List AV) {wr ex : Bool} {cap : Nat}
    (hi : L[i]? = some (outB esz xs)) (hn : xs.length = n) (hj : L[j]? = some (.row wr esz [y])) (hb : okBig (n + 1) bytes = true)
    (h : WW P E N H k (putD T' d (outV (H.key L.length) esz (n + 1))) (H.ext (L.set i .dead ++ [outB esz (xs ++ [y])])) Q) : RW P E N H (appQ esz bytes (some (outV (H.key i) esz n)) (some (.slice (H.key j) 0 1 esz ex cap)) (H.ext L)) d k T' G Q := by
  show RW P E N H (appR esz bytes (.c (outV (H.key i) esz n)) (.c (.slice (H.key j) 0 1 esz ex cap)) .lf (H.ext L)) d k T' G Q
  rw [appR_out rfl rfl hi hn hj hb]
  exact h
/-- the blocks that are kept, one after the other -/
def WkB (l : List Blk) (ρ : K → K) : List Blk → List Nat → Prop
  | b :: bs, i :: σ => (b.live → l[i]? = some (b.ren ρ)) ∧ WkB l ρ bs σ
  | _, _ => True
@[go_sem] theorem WkB_nil (l : List Blk) (ρ : K → K) (σ : List Nat) : WkB l ρ [] σ = True := by cases σ <;> rfl
@[go_sem] theorem WkB_cons (l : List Blk) (ρ : K → K) (b bs i σ) : WkB l ρ (b :: bs) (i :: σ) = ((b.live → l[i]? = some (b.ren ρ)) ∧ WkB l ρ bs σ) := rfl
theorem WkB.all {l : List Blk} {ρ : K → K} : ∀ {bs : List Blk} {σ : List Nat}, WkB l ρ bs σ → ∀ p ∈ bs.zip σ, p.1.live → l[p.2]? = some (p.1.ren ρ)
  | [], _, _, p, hp => by simp at hp
  | _ :: _, [], _, p, hp => by simp at hp
  | b :: bs, i :: σ, h, p, hp => by
    rw [List.zip_cons_cons, List.mem_cons] at hp
    rcases hp with rfl | hp
    · exact h.1
    · exact WkB.all h.2 p hp
theorem Wk.of {H : Heap} {T : Tr AV} {l : List Blk} {ts : List (K × AV)} {l2 : List Blk} {σ : List Nat} (h1 : l2.length = σ.length) (h2 : σ.Nodup) (h3 : ∀ p ∈ ts, T.get p.1 = some (p.2.ren (rho H l.length σ))) (h4 : WkB l (rho H l.length σ) l2 σ) : Wk H T l ts l2 σ := .mk' h1 h2 h3 h4.all
end Go.Ev
/- A slice of one's own: nil, empty, or with elements; what makes one, what puts one in. -/


set_option linter.all false
namespace Go.Ev
variable {P : Program} {H : Heap}
/-- a slice of one's own: an empty one is nil, or has room for nothing -/
def zV (z : Bool) (k : K) (esz n : Nat) : AV := match n with
  | 0 => if z then .nils else .slice k 0 0 esz true 0
  | n + 1 => .slice k 0 (n + 1) esz false (n + 1)
def zB (z : Bool) (esz : Nat) (xs : List (List AV)) : Blk := match xs with
  | [] => if z then .dead else .row true esz []
  | x :: xs => .row true esz (x :: xs)
theorem zV_t (k : K) (esz n : Nat) : zV true k esz n = outV k esz n := by cases n <;> rfl
theorem zB_t (esz : Nat) (xs : List (List AV)) : zB true esz xs = outB esz xs := by cases xs <;> rfl
theorem zV_pos {z : Bool} {k : K} {esz n : Nat} (h : 0 < n) : zV z k esz n = .slice k 0 n esz false n := by
  cases n with
  | zero => exact absurd h (by decide)
  | succ n => rfl
theorem zB_pos {z : Bool} {esz : Nat} {xs : List (List AV)} (h : 0 < xs.length) : zB z esz xs = .row true esz xs := by
  cases xs with
  | nil => exact absurd h (by decide)
  | cons x xs => rfl
theorem zV_ren (ρ : K → K) (z : Bool) (k : K) (e n : Nat) : AV.ren ρ (zV z k e n) = zV z (ρ k) e n := by
  cases n with
  | zero => cases z <;> (show AV.ren ρ _ = _) <;> simp only [zV, AV.ren, if_true, Bool.false_eq_true, if_false]
  | succ n => show AV.ren ρ (.slice k 0 (n + 1) e false (n + 1)) = .slice (ρ k) 0 (n + 1) e false (n + 1); rw [AV.ren]
theorem zB_ren (ρ : K → K) {z : Bool} {e : Nat} {xs : List (List AV)} (h : xs.map (AV.rens ρ) = xs) : Blk.ren ρ (zB z e xs) = zB z e xs := by
  cases xs with
  | nil => cases z <;> rfl
  | cons x xs => show Blk.row true e ((x :: xs).map (AV.rens ρ)) = Blk.row true e (x :: xs); rw [h]
@[go_sem] theorem len_z (z : Bool) (k : K) (e n : Nat) (G : Heap) : asSliceC (zV z k e n) R1.fail (R1.val (AV.int IntKind.i64 0) G) (fun _ _ len _ _ _ => R1.val (AV.int IntKind.i64 (len : Int)) G) = R1.val (.int .i64 n) G := by
  cases n with
  | zero => cases z <;> rfl
  | succ n => rfl
theorem zB_arr {z : Bool} {L : List Blk} {esz i : Nat} {xs : List (List AV)} (h : L[i]? = some (zB z esz xs)) : Arr (H.ext L) esz (zV z (H.key i) esz xs.length) xs := by
  have hi := (List.getElem?_eq_some_iff.1 h).1
  cases xs with
  | nil =>
    cases z
    · refine .inr ⟨H.key i, 0, true, 0, rfl, ?_, fun e => absurd rfl e⟩
      rw [Heap.nx_ext, Heap.toNat_key, Heap.toNat_key]; omega
    · exact .inl ⟨rfl, rfl⟩
  | cons x xs =>
    refine .inr ⟨H.key i, 0, false, xs.length + 1, rfl, ?_, fun _ => ⟨0, true, x :: xs, by simp, ?_, by simp⟩⟩
    · rw [Heap.nx_ext, Heap.toNat_key, Heap.toNat_key]; omega
    · rw [Heap.get_ext_key _ _ _ hi, h]; rfl
/-- what a function hands back: a slice of its own, all else let go -/
theorem FnOk.dropZ' {f : FuncId} {args : List AV} {esz : Nat} {xs : List (List AV)} (hx : ∀ top σ, xs.map (AV.rens (rho H top σ)) = xs)
    (h : FnOk P f args H fun v G => ∃ z l i, v = zV z (H.key i) esz xs.length ∧ G = H.ext l ∧ ((zB z esz xs).live → l[i]? = some (zB z esz xs))) :
    FnOk P f args H fun v G => ∃ z, v = zV z H.nx esz xs.length ∧ G = H.ext [zB z esz xs] := by
  refine h.wk ?_
  rintro v G ⟨z, l, i, rfl, rfl, hl⟩
  refine ⟨l, [zB z esz xs], [i], zV z H.nx esz xs.length, rfl, ?_, rfl, by simp, ?_, z, rfl, rfl⟩
  · rw [zV_ren, ← Heap.key_zero, rho_key rfl]
  · intro p hp
    simp only [List.zip_cons_cons, List.zip_nil_left, List.mem_singleton] at hp
    subst hp
    intro hlive
    show l[i]? = some (Blk.ren _ (zB z esz xs))
    rw [zB_ren _ (hx _ _), hl hlive]
/-- the same of one that is nil where it is empty -/
theorem FnOk.dropO' {f : FuncId} {args : List AV} {esz n : Nat} {xs : List (List AV)} (hn : xs.length = n) (hx : ∀ top σ, xs.map (AV.rens (rho H top σ)) = xs)
    (h : FnOk P f args H fun v G => ∃ l i, v = outV (H.key i) esz n ∧ G = H.ext l ∧ ((outB esz xs).live → l[i]? = some (outB esz xs))) :
    FnOk P f args H fun v G => v = outV H.nx esz n ∧ G = H.ext [outB esz xs] := by
  subst hn
  refine h.wk ?_
  rintro v G ⟨l, i, rfl, rfl, hl⟩
  refine ⟨l, [outB esz xs], [i], outV H.nx esz xs.length, rfl, ?_, rfl, by simp, ?_, rfl, rfl⟩
  · rw [outV_ren', ← Heap.key_zero, rho_key rfl]
  · intro p hp
    simp only [List.zip_cons_cons, List.zip_nil_left, List.mem_singleton] at hp
    subst hp
    intro hlive
    show l[i]? = some (Blk.ren _ (outB esz xs))
    rw [outB_ren' _ (hx _ _), hl hlive]
theorem clone_z' {f : FuncId} {esz bytes : Nat} {zero : List AV} (hf : CloFn P f esz bytes zero) {v : AV} {xs : List (List AV)} (hA : Arr H esz v xs) (hb : (2 * xs.length + 192) * bytes ≤ 281474976710656) (hx : ∀ top σ, xs.map (AV.rens (rho H top σ)) = xs) :
    FnOk P f [v] H fun r G => ∃ z, r = zV z H.nx esz xs.length ∧ G = H.ext [zB z esz xs] := by
  refine FnOk.dropZ' hx ?_
  rcases hA with ⟨rfl, rfl⟩ | ⟨k, off, ex, cap, rfl, hk, h⟩
  · refine (clone_nil hf).mono ?_
    rintro v G ⟨rfl, rfl⟩
    exact ⟨true, [], 0, rfl, (Heap.ext_nil _).symm, fun h => h.elim⟩
  · rcases Nat.eq_zero_or_pos xs.length with h0 | h0
    · obtain rfl := List.length_eq_zero_iff.1 h0
      refine (clone_zero hf).mono ?_
      rintro v G ⟨rfl, rfl⟩
      exact ⟨false, _, 0, rfl, rfl, fun _ => rfl⟩
    · obtain ⟨r, wr, rows, rfl, hg, hrow⟩ := h (by intro e; rw [e] at h0; simp at h0)
      have hn : r + xs.length ≤ rows.length := by
        have := congrArg List.length hrow
        rw [List.length_take, List.length_drop] at this
        omega
      have key := clone_arr hf hg hn h0 hb (ex := ex) (cap := cap)
      rw [hrow] at key
      refine key.mono ?_
      rintro v G ⟨rfl, rfl⟩
      exact ⟨true, _, 1, (zV_pos h0).symm, rfl, fun _ => by rw [zB_pos h0]; rfl⟩
theorem insert_z {f : FuncId} {esz bytes : Nat} {zero : List AV} (hf : InsFn P f esz bytes zero) {L : List Blk} {i j n : Nat} {z : Bool} {x : List AV} {xs : List (List AV)} {m : Nat}
    (hij : j ≠ i) (hj : L[j]? = some (.row true esz [x])) (hi : L[i]? = some (zB z esz xs)) (hn : xs.length = n) (hm : m ≤ n) (hl : n < 4294967296) (hb : (2 * (n + 1) + 192) * bytes ≤ 281474976710656) :
    FnOk P f [zV z (H.key i) esz n, .int .i64 m, .slice (H.key j) 0 1 esz true 1] (H.ext L) fun v G => ∃ b, v = outV (H.key L.length) esz (n + 1) ∧ G = H.ext (L.set i b ++ [outB esz (xs.take m ++ x :: xs.drop m)]) := by
  subst hn
  have hil := (List.getElem?_eq_some_iff.1 hi).1
  have hjl := (List.getElem?_eq_some_iff.1 hj).1
  have hgv : (H.ext L).get (H.key j) = some (.row true esz [x]) := by rw [Heap.get_ext_key _ _ _ hjl, hj]
  have hgk : (H.ext L).get (H.key i) = some (zB z esz xs) := by rw [Heap.get_ext_key _ _ _ hil, hi]
  have hset : L.set i (zB z esz xs) = L := by
    refine List.ext_getElem? fun q => ?_
    rw [List.getElem?_set]
    split
    · rename_i hq; subst hq; rw [hi]
    · rfl
  cases xs with
  | nil =>
    obtain rfl : m = 0 := by simpa using hm
    cases z
    · refine (insert_zero hf hgv hgk (by simpa using hb)).mono ?_
      rintro v G ⟨rfl, rfl⟩
      rw [Heap.nx_ext, Heap.ext_append]
      exact ⟨_, rfl, by rw [hset]; rfl⟩
    · refine (insert_nil hf hgv (by simpa using hb)).mono ?_
      rintro v G ⟨rfl, rfl⟩
      rw [Heap.nx_ext, Heap.ext_append]
      exact ⟨_, rfl, by rw [hset]; rfl⟩
  | cons y ys =>
    have hne : H.key j ≠ H.key i := fun h => hij (by
      have := congrArg K.toNat h
      rw [Heap.toNat_key, Heap.toNat_key] at this
      omega)
    refine (insert_own hf hne hgv hgk (by simp) hm hl hb).mono ?_
    rintro v G ⟨rfl, rfl⟩
    rw [Heap.nx_ext, Heap.set_ext_key _ _ _ _ hil, Heap.ext_append]
    refine ⟨.dead, rfl, ?_⟩
    congr 2
    rw [outB_pos (by simp only [List.length_append, List.length_cons, List.length_drop, List.length_take]; omega)]
@[go_sem] theorem bin_half {β : Type} (ek : EK) (pk : Option (List LK)) (lit : Bool) (a : Int) (f : β) (c : AV → β) : binV P ek pk lit .shr (.int .u64 a) (.int .u64 1) f c = c (.int .u64 (a.fdiv 2)) := bin_shr ek pk lit .u64 a f c .u64 1
@[go_sem] theorem max_int {β : Type} (k : IntKind) (a b : Int) (f : β) (c : AV → β) : mm2 true (.int k a) (.int k b) f c = c (.int k (max a b)) := by
  show bif' true (ltI a b fun z => bif' z (c (.int k b)) (c (.int k a))) (ltI b a fun z => bif' z (c (.int k b)) (c (.int k a))) = _
  rw [bif_true, ltI_eq, bif_eq]
  by_cases h : a < b
  · rw [decide_eq_true h, if_pos rfl, Int.max_eq_right (by omega)]
  · rw [decide_eq_false h, if_neg (by decide), Int.max_eq_left (by omega)]
theorem arr_row {L : List Blk} {esz i n : Nat} {wr ex : Bool} {cap : Nat} {xs : List (List AV)} (h : L[i]? = some (.row wr esz xs)) (hn : n = xs.length) : Arr (H.ext L) esz (.slice (H.key i) 0 n esz ex cap) xs := by
  subst hn
  have hi := (List.getElem?_eq_some_iff.1 h).1
  refine .inr ⟨H.key i, 0, ex, cap, rfl, ?_, fun _ => ⟨0, wr, xs, by simp, ?_, by simp⟩⟩
  · rw [Heap.nx_ext, Heap.toNat_key, Heap.toNat_key]; omega
  · rw [Heap.get_ext_key _ _ _ hi, h]
theorem arr_outV {L : List Blk} {esz i n : Nat} {xs : List (List AV)} (h : L[i]? = some (outB esz xs)) (hn : xs.length = n) : Arr (H.ext L) esz (outV (H.key i) esz n) xs := by
  subst hn
  rw [← zV_t]
  exact zB_arr (by rw [h, zB_t])
theorem arr_zV {z : Bool} {L : List Blk} {esz i n : Nat} {xs : List (List AV)} (h : L[i]? = some (zB z esz xs)) (hn : xs.length = n) : Arr (H.ext L) esz (zV z (H.key i) esz n) xs := by
  subst hn
  exact zB_arr h
@[go_sem low] theorem readC_first {β : Type} (f : β) (esz : Nat) (rows : List (List AV)) (q n : Nat) (c : List AV → β) (hp : q < esz) (hn : q + n ≤ esz) : readC f esz rows q n c = optC rows[0]? f fun row => bif' (Bool.and (Nat.beq q 0) (Nat.beq n esz)) (c row) (takeC f n (dropL q row) c) := by
  have := readC_at f esz rows 0 q n c hp hn
  rwa [Nat.zero_mul, Nat.zero_add] at this
theorem bool_t {p : Prop} [Decidable p] (h : p) : AV.bool true = .bool (decide p) := by rw [decide_eq_true h]
theorem bool_f {p : Prop} [Decidable p] (h : ¬p) : AV.bool false = .bool (decide p) := by rw [decide_eq_false h]
theorem Arr.uniq {v : AV} {esz : Nat} {xs ys : List (List AV)} (hx : Arr H esz v xs) (hy : Arr H esz v ys) (he : 0 < esz) : xs = ys := by
  rcases hx with ⟨rfl, rfl⟩ | ⟨k, off, ex, cap, rfl, _, h1⟩
  · rcases hy with ⟨_, rfl⟩ | ⟨_, _, _, _, h, _⟩
    · rfl
    · cases h
  · rcases hy with ⟨h, _⟩ | ⟨k', off', ex', cap', h, _, h2⟩
    · cases h
    · injection h with e1 e2 e3 e4 e5 e6
      subst e1 e2
      by_cases hn : xs = []
      · subst hn
        exact (List.length_eq_zero_iff.1 (by rw [← e3]; rfl)).symm
      · have hn' : ys ≠ [] := by intro h; subst h; exact hn (List.length_eq_zero_iff.1 (by rw [e3]; rfl))
        obtain ⟨r, wr, rows, e7, e8, e9⟩ := h1 hn
        obtain ⟨r', wr', rows', f7, f8, f9⟩ := h2 hn'
        rw [e8] at f8; cases f8
        have : r = r' := by
          have := e7.symm.trans f7
          exact Nat.eq_of_mul_eq_mul_right he this
        subst this
        rw [← e9, ← f9, e3]
end Go.Ev
/- A contract of the kit's own, as a triple: what a function hands back that lets all old blocks alone. -/


set_option linter.all false
namespace Go.Ev
variable {P : Program} {φ : Phi} {H : Heap} {w u : World}
theorem WRel.grows (hw : WRel P φ H w) (hs : w.heap.size ≤ u.heap.size) (hk : ∀ b, b < w.heap.size → u.heap[b]? = w.heap[b]?) : WRel P φ H u := by
  refine ⟨⟨hw.dom, hw.top, fun k b a hg ha => BlkRel.congr (w := w) (hk _ (hw.size k a ha)) (hw.blk k b a hg ha), hw.inj, fun k a ha => Nat.lt_of_lt_of_le (hw.size k a ha) hs⟩, fun g v hm => ?_⟩
  obtain ⟨h1, h2⟩ := hw.rom g v hm
  refine ⟨?_, h2⟩
  have hlt := cell_in h1
  unfold World.cell? at h1 ⊢
  rw [hk g hlt]; exact h1
/-- old blocks as they were, new ones behind -/
structure Grows (w u : World) : Prop where
  size : w.heap.size ≤ u.heap.size
  old : ∀ b, b < w.heap.size → u.heap[b]? = w.heap[b]?
  os : u.os = w.os
  tape : u.tape = w.tape
  output : u.output = w.output
theorem Grows.refl (w : World) : Grows w w := ⟨Nat.le_refl _, fun _ _ => rfl, rfl, rfl, rfl⟩
theorem Grows.trans {w u v : World} (a : Grows w u) (b : Grows u v) : Grows w v := ⟨Nat.le_trans a.size b.size, fun x hx => by rw [b.old x (Nat.lt_of_lt_of_le hx a.size), a.old x hx], b.os.trans a.os, b.tape.trans a.tape, b.output.trans a.output⟩
theorem Grows.alloc (w : World) (o : Obj) : Grows w (w.alloc o) := by
  refine ⟨?_, fun b hb => ?_, rfl, rfl, rfl⟩
  · simp
  · show (w.heap.push o)[b]? = _
    rw [Array.getElem?_push, if_neg (by omega)]
theorem FnOk.of_calls {f : FuncId} {args : List AV} {v : AV}
    (h : ∀ φ w args', VRels P φ args args'.toList → WRel P φ H w → Calls P f args' w fun e u => (∃ v', e = .returned v' ∧ VRel P φ v v') ∧ Grows w u) : FnOk P f args H fun r G => r = v ∧ G = H := by
  intro φ w args' ha hw
  refine (h φ w args' ha hw).mono ?_
  rintro e u ⟨⟨v', rfl, hv⟩, hg⟩
  refine ⟨v, H, ⟨rfl, rfl⟩, φ, v', rfl, hv, hw.grows hg.size hg.old, ⟨fun _ _ => rfl, Nat.le_refl _, hg.size, fun b hb _ => hg.old b hb, fun _ _ _ => rfl, fun _ _ h => h, hg.os, hg.tape, hg.output⟩⟩
end Go.Ev
/- Objects that a call changes: memories that aren't spelt out. -/


set_option linter.all false
set_option maxRecDepth 100000
namespace Go.Ev
variable {P : Program}
section
variable {N : Nat} {H0 H : Heap} {T : Tr AV} {Q : Ex → Tr AV → Heap → Prop}
theorem At2.sub {φ0 : Phi} {w0 u : World} {a : Act} {ts : List (K × AV)} (hts : ∀ p ∈ ts, T.get p.1 = some p.2) (h : At2 P φ0 H0 w0 N T H a u) : At2 P φ0 H0 w0 N (trOf ts) H a u := by
  obtain ⟨hd, ψ, ht, hw, he⟩ := h
  exact ⟨hd, ψ, ⟨ht.size, fun t v hv => ht.get t v (hts _ (get_trOf ts _ v hv))⟩, hw, he⟩
theorem Tri.sub {c : Code} {ts : List (K × AV)} (hts : ∀ p ∈ ts, T.get p.1 = some p.2) (h : Tri P N H0 c (trOf ts) H Q) : Tri P N H0 c T H Q :=
  fun φ0 w0 a u h0 ha => h φ0 w0 a u h0 (ha.sub hts)
theorem TriC.sub {c : CC} {ts : List (K × AV)} (hts : ∀ p ∈ ts, T.get p.1 = some p.2) (h : TriC P N H0 c (trOf ts) H Q) : TriC P N H0 c T H Q := fun code hc => (h code hc).sub hts
end
section
variable {E : FuncId → List AV → Heap → RC} {N : Nat} {H0 : Heap} {k : List It} {Q : Ex → Tr AV → Heap → Prop} {T : Tr AV} {G : Heap}
theorem WW.nil (h : WW P E N H0 k T (G.ext []) Q) : WW P E N H0 k T G Q := by rw [Heap.ext_nil] at h; exact h
/-- a round's end: another state, nearer the end; the memory is told of by what holds in it -/
def NextH {S : Type} (μ : S → Nat) (inv : S → Heap → Prop) (ts : S → List (K × AV)) (s : S) (T : Tr AV) (G : Heap) : Prop :=
  ∃ s', μ s' < μ s ∧ inv s' G ∧ ∀ p ∈ ts s', T.get p.1 = some p.2
theorem LL.sth {x : CC} (hE : Good P E) {S : Type} (μ : S → Nat) (inv : S → Heap → Prop) (ts : S → List (K × AV))
    (h : ∀ s G, inv s G → WW P E N H0 [.code x] (trOf (ts s)) (G.ext []) (behind (NextH μ inv ts s) (postW P E N H0 k Q))) (s0 : S) (hi : inv s0 G) (ht : ∀ p ∈ ts s0, T.get p.1 = some p.2) : LL P E N H0 x k T G Q := by
  refine TriC.loop (fun m T G => ∃ s, m = μ s ∧ inv s G ∧ ∀ p ∈ ts s, T.get p.1 = some p.2) ?_ (m := μ s0) ⟨s0, rfl, hi, ht⟩
  rintro m T G ⟨s, rfl, hs, hts⟩
  refine TriC.sub hts ?_
  refine (wpc_ok hE x _ _ _ (WW.nil (h s G hs))).mono ?_
  intro e T' G' q
  cases e with
  | norm => obtain ⟨s', h1, h2, h3⟩ := q; exact ⟨μ s', h1, s', rfl, h2, h3⟩
  | exit n => exact q
  | ret => exact q
end
/-- the slots that are told of -/
@[go_sem] def Slots (T : Tr AV) : List (K × AV) → Prop
  | [] => True
  | p :: ts => T.get p.1 = some p.2 ∧ Slots T ts
theorem Slots.all {T : Tr AV} : ∀ {ts : List (K × AV)}, Slots T ts → ∀ p ∈ ts, T.get p.1 = some p.2
  | [], _, p, h => by cases h
  | q :: ts, h, p, hp => by
    rcases List.mem_cons.1 hp with rfl | hp
    · exact h.1
    · exact Slots.all h.2 p hp
namespace Heap
attribute [go_sem] key_set nx_set'
@[go_sem] theorem get_key_of {B G : Heap} {l : List Blk} {i : Nat} (h : B.nx = G.nx) (hi : i < l.length) : (B.ext l).get (G.key i) = l[i]? := by
  have : G.key i = B.key i := by unfold key; rw [h]
  rw [this, get_ext_key _ _ _ hi]
@[go_sem] theorem setC_key_of {α : Type} {B G : Heap} {l : List Blk} {i : Nat} (h : B.nx = G.nx) (hi : i < l.length) (b : Blk) (c : Heap → α) : (B.ext l).setC (G.key i) b c = c (B.ext (l.set i b)) := by
  have : G.key i = B.key i := by unfold key; rw [h]
  rw [this, setC_ext _ _ _ _ _ hi]
@[go_sem] theorem get_key_set {G : Heap} {s : K} {b : Blk} {l : List Blk} {i : Nat} (hi : i < l.length) : ((G.set s b).ext l).get (G.key i) = l[i]? := get_key_of rfl hi
@[go_sem] theorem setC_key_set {α : Type} {G : Heap} {s : K} {b : Blk} {l : List Blk} {i : Nat} (hi : i < l.length) (d : Blk) (c : Heap → α) : ((G.set s b).ext l).setC (G.key i) d c = c ((G.set s b).ext (l.set i d)) := setC_key_of rfl hi d c
theorem ok_set {G : Heap} (h : G.ok) {k : K} {b c : Blk} (hk : G.get k = some c) : (G.set k b).ok := by
  intro j d hj
  rw [get_set] at hj
  split at hj
  · rename_i e; subst e; exact h k c hk
  · exact h j d hj
/-- a block that is set in a memory: what is got then -/
theorem get_set_here {G : Heap} (hok : G.ok) {k : K} {c : Blk} (hk : G.get k = some c) (b : Blk) (l : List Blk) : ((G.set k b).ext l).get k = some b := by
  rw [get_ext_lt (G.set k b) l k (show k.toNat < (G.set k b).nx.toNat from hok k c hk), get_set, if_pos rfl]
theorem get_set_there {G : Heap} (hok : G.ok) {k j : K} {d : Blk} (hj : G.get j = some d) (hne : k ≠ j) (b : Blk) (l : List Blk) : ((G.set k b).ext l).get j = some d := by
  rw [get_ext_lt (G.set k b) l j (show j.toNat < (G.set k b).nx.toNat from hok j d hj), get_set, if_neg hne, hj]
theorem setC_set_here {α : Type} {G : Heap} (hok : G.ok) {k : K} {x : Blk} (hk : G.get k = some x) (b d : Blk) (l : List Blk) (c : Heap → α) : ((G.set k b).ext l).setC k d c = c ((G.set k d).ext l) := by
  rw [setC_old (G.set k b) l k d c (show k.toNat < (G.set k b).nx.toNat from hok k x hk), set_set]
theorem setC_here {α : Type} {G : Heap} (hok : G.ok) {k : K} {x : Blk} (hk : G.get k = some x) (b : Blk) (l : List Blk) (c : Heap → α) : (G.ext l).setC k b c = c ((G.set k b).ext l) := setC_old _ l k b c (hok k x hk)
end Heap
theorem Arr.set {G : Heap} {k : K} {b : Blk} {wr : Bool} {e e' : Nat} {rows : List (List AV)} {v : AV} {xs : List (List AV)} (h : Arr G e v xs) (hk : G.get k = some (.row wr e' rows)) (he : e ≠ e') : Arr (G.set k b) e v xs := by
  rcases h with h | ⟨j, off, ex, cap, rfl, hj, h⟩
  · exact .inl h
  · refine .inr ⟨j, off, ex, cap, rfl, hj, fun hx => ?_⟩
    obtain ⟨r, wr', rows', h1, h2, h3⟩ := h hx
    refine ⟨r, wr', rows', h1, ?_, h3⟩
    rw [Heap.get_set, if_neg fun e => ?_]
    · exact h2
    · subst e; rw [hk] at h2; cases h2; exact he rfl
end Go.Ev
/- Loops of few rounds, unrolled. -/

set_option linter.all false
namespace Go.Ev
variable {P : Program} {H : Heap} {T : Tr AV} {E : FuncId → List AV → Heap → RC} {N : Nat} {H0 : Heap} {k : List It} {Q : Ex → Tr AV → Heap → Prop}
theorem WW.code_mono {x : CC} {Q R : Ex → Tr AV → Heap → Prop} (h : WW P E N H0 [.code x] T H Q) (hq : ∀ e T H, Q e T H → R e T H) : WW P E N H0 [.code x] T H R := wpc_mono x T H _ _ (fun e T H q => hq e T H q) h
noncomputable def UN (P : Program) (E : FuncId → List AV → Heap → RC) (N : Nat) (H0 : Heap) (x : CC) (k : List It) (Q : Ex → Tr AV → Heap → Prop) : Nat → Tr AV → Heap → Prop
  | 0, T, H => WW P E N H0 [.code x] T H (behind (fun _ _ => False) (postW P E N H0 k Q))
  | n + 1, T, H => WW P E N H0 [.code x] T H (behind (UN P E N H0 x k Q n) (postW P E N H0 k Q))
theorem LL.un {x : CC} (hE : Good P E) (n : Nat) (h : UN P E N H0 x k Q n T H) : LL P E N H0 x k T H Q := by
  refine LL.of hE (fun m T H => UN P E N H0 x k Q m T H) (fun m T H hm => ?_) (m := n) h
  cases m with
  | zero =>
    refine WW.code_mono hm fun e T H q => ?_
    cases e with
    | norm => exact q.elim
    | exit n => exact q
    | ret => exact q
  | succ m =>
    refine WW.code_mono hm fun e T H q => ?_
    cases e with
    | norm => exact ⟨m, Nat.lt_succ_self m, q⟩
    | exit n => exact q
    | ret => exact q
@[go_sem] theorem UN_0 (x : CC) : UN P E N H0 x k Q 0 T H = WW P E N H0 [.code x] T H (behind (fun _ _ => False) (postW P E N H0 k Q)) := nrf rfl
@[go_sem] theorem UN_1 (x : CC) : UN P E N H0 x k Q 1 T H = WW P E N H0 [.code x] T H (behind (UN P E N H0 x k Q 0) (postW P E N H0 k Q)) := nrf rfl
@[go_sem] theorem UN_2 (x : CC) : UN P E N H0 x k Q 2 T H = WW P E N H0 [.code x] T H (behind (UN P E N H0 x k Q 1) (postW P E N H0 k Q)) := nrf rfl
@[go_sem] theorem UN_3 (x : CC) : UN P E N H0 x k Q 3 T H = WW P E N H0 [.code x] T H (behind (UN P E N H0 x k Q 2) (postW P E N H0 k Q)) := nrf rfl
@[congr] theorem UN_congr {x : CC} {n : Nat} {U : Tr AV} {G : Heap} (h : T = U) (h2 : H = G) : UN P E N H0 x k Q n T H = UN P E N H0 x k Q n U G := by rw [h, h2]
/-- a call that is known, two calls that are known: for regions that draw their order -/
theorem withE_eq (E : FuncId → List AV → Heap → RC) (f : FuncId) (args : List AV) (H : Heap) (v : AV) (G : Heap) : withE E f args H v G f args H = .ok v G := by
  unfold withE
  rw [if_pos ⟨rfl, rfl, rfl⟩]
theorem withE_ne {E : FuncId → List AV → Heap → RC} {f g : FuncId} (h : g ≠ f) (args a : List AV) (H J : Heap) (v : AV) (G : Heap) : withE E f args H v G g a J = E g a J := by
  unfold withE
  rw [if_neg fun e => h e.1]
theorem one_call {f : FuncId} {a : List AV} {v : AV} {G : Heap} (h : FnOk P f a H fun r J => r = v ∧ J = G) : ∃ E : FuncId → List AV → Heap → RC, Good P E ∧ E f a H = .ok v G := ⟨withE E0 f a H v G, good_withE good_E0 h, withE_eq ..⟩
theorem two_calls {f g : FuncId} (hne : g ≠ f) {a b : List AV} {v u : AV} {H2 G G2 : Heap} (h : FnOk P f a H fun r J => r = v ∧ J = G) (h2 : FnOk P g b H2 fun r J => r = u ∧ J = G2) :
    ∃ E : FuncId → List AV → Heap → RC, Good P E ∧ E f a H = .ok v G ∧ E g b H2 = .ok u G2 := ⟨withE (withE E0 f a H v G) g b H2 u G2, good_withE (good_withE good_E0 h) h2, by rw [withE_ne (Ne.symm hne), withE_eq], withE_eq ..⟩
end Go.Ev
/- Laid-out code reckoned whole; a call that has no addresses, in any memory. -/

set_option linter.all false
namespace Go.Ev
variable {P : Program} {φ ψ : Phi} {H : Heap} {w u : World} {T : Tr AV}

noncomputable def evC (E : FuncId → List AV → Heap → RC) (n : Nat) : CC → Tr AV → Heap → Res :=
  Nat.rec (motive := fun _ => CC → Tr AV → Heap → Res) (fun _ _ _ => .fail) (fun _ ih c T H => CC.rec (motive := fun _ => Res)
    (.ok .norm T H) (.ok .ret T H) (fun n => .ok (.exit n) T H)
    (fun l => stepsC eqAV E l T H .fail fun T H => .ok .norm T H) (fun l => stepsC eqAV E l T H .fail fun T H => .ok .norm T H)
    (fun x y _ _ => onNorm (ih x T H) (ih y)) (fun c x y _ _ => onCond (some c) T (ih x T H) (ih y T H))
    (fun id x _ => onBlock (ih x T H) id) (fun x _ => onNorm (ih x T H) (ih (.loop x))) c) n

theorem steps_goes {E : FuncId → List AV → Heap → RC} (hE : Good P E) : ∀ (l : List Stp) (T : Tr AV) (H : Heap) {e : Ex} {T' : Tr AV} {H' : Heap} {K : Tr AV → Heap → Prop},
    stepsC eqAV E l T H .fail (fun T H => Res.ok .norm T H) = .ok e T' H' → (e = .norm → K T' H') → Stp.goes P l T H K
  | [], T, H, e, T', H', K, h, hk => by
    have h : Res.ok .norm T H = .ok e T' H' := h
    cases h; exact hk rfl
  | .mk g dst gd re :: l, T, H, e, T', H', K, h, hk => by
    have h : gdC T gd .fail
      (R1.rec (motive := fun _ => Res) .fail (fun v G => putT T dst v fun T => reC eqAV T G re .fail (stepsC eqAV E l T G .fail fun T H => Res.ok .norm T H)) (fun fn args => RC.rec (motive := fun _ => Res) .fail (fun v G => putT T dst v fun T => reC eqAV T G re .fail (stepsC eqAV E l T G .fail fun T H => Res.ok .norm T H)) (E fn args H)) (g T H))
      (putT T dst (.tup []) fun T => stepsC eqAV E l T H .fail fun T H => Res.ok .norm T H) = .ok e T' H' := h
    show gdC T gd False ((g T H).go P H fun v G => putT T dst v fun T => Stp.goes P l T G K) (putT T dst (.tup []) fun T => Stp.goes P l T H K)
    rcases gdC_sel T gd with h1 | h1 | h1 <;> rw [h1] at h ⊢
    · cases h
    · cases hg : g T H with
      | fail => rw [hg] at h; cases h
      | val v G =>
        rw [hg] at h
        have h : (putT T dst v fun T => reC eqAV T G re .fail (stepsC eqAV E l T G .fail fun T H => Res.ok .norm T H)) = .ok e T' H' := h
        show putT T dst v fun T => Stp.goes P l T G K
        rw [putD_eq] at h ⊢
        rcases reC_sel eqAV (putD T dst v) G re with h2 | ⟨_, h2⟩ <;> rw [h2] at h
        · cases h
        · exact steps_goes hE l _ _ h hk
      | call f args =>
        rw [hg] at h
        cases hc : E f args H with
        | fail =>
          have h : RC.rec (motive := fun _ => Res) .fail (fun v G => putT T dst v fun T => reC eqAV T G re .fail (stepsC eqAV E l T G .fail fun T H => Res.ok .norm T H)) (E f args H) = .ok e T' H' := h
          rw [hc] at h; cases h
        | ok v G =>
          have h : RC.rec (motive := fun _ => Res) .fail (fun v G => putT T dst v fun T => reC eqAV T G re .fail (stepsC eqAV E l T G .fail fun T H => Res.ok .norm T H)) (E f args H) = .ok e T' H' := h
          rw [hc] at h
          have h : (putT T dst v fun T => reC eqAV T G re .fail (stepsC eqAV E l T G .fail fun T H => Res.ok .norm T H)) = .ok e T' H' := h
          have hf : FnOk P f args H fun v' G' => v' = v ∧ G' = G := fun φ w args' ha hw => (hE f args H v G hc φ w args' ha hw).mono fun e u hr => ⟨v, G, ⟨rfl, rfl⟩, hr⟩
          refine hf.mono ?_
          rintro v' G' ⟨rfl, rfl⟩
          rw [putD_eq] at h ⊢
          rcases reC_sel eqAV (putD T dst v') G' re with h2 | ⟨_, h2⟩ <;> rw [h2] at h
          · cases h
          · exact steps_goes hE l _ _ h hk
    · rw [putD_eq] at h ⊢
      exact steps_goes hE l _ _ h hk
theorem steps_goesD {E : FuncId → List AV → Heap → RC} : ∀ (l : List Stp) (T : Tr AV) (H : Heap) {e : Ex} {T' : Tr AV} {H' : Heap} {K : Tr AV → Heap → Prop},
    stepsC eqAV E l T H .fail (fun T H => Res.ok .norm T H) = .ok e T' H' → (e = .norm → K T' H') → Stp.goesD P E eqAV l T H K
  | [], T, H, e, T', H', K, h, hk => by
    have h : Res.ok .norm T H = .ok e T' H' := h
    cases h; exact hk rfl
  | .mk g dst gd re :: l, T, H, e, T', H', K, h, hk => by
    have h : gdC T gd .fail
      (R1.rec (motive := fun _ => Res) .fail (fun v G => putT T dst v fun T => reC eqAV T G re .fail (stepsC eqAV E l T G .fail fun T H => Res.ok .norm T H)) (fun fn args => RC.rec (motive := fun _ => Res) .fail (fun v G => putT T dst v fun T => reC eqAV T G re .fail (stepsC eqAV E l T G .fail fun T H => Res.ok .norm T H)) (E fn args H)) (g T H))
      (putT T dst (.tup []) fun T => stepsC eqAV E l T H .fail fun T H => Res.ok .norm T H) = .ok e T' H' := h
    show gdC T gd False
      (match g T H with
        | .fail => False
        | .val v G => putT T dst v fun T => reC eqAV T G re False (Stp.goesD P E eqAV l T G K)
        | .call f args => match E f args H with | .fail => False | .ok v G => putT T dst v fun T => reC eqAV T G re False (Stp.goesD P E eqAV l T G K))
      (putT T dst (.tup []) fun T => Stp.goesD P E eqAV l T H K)
    rcases gdC_sel T gd with h1 | h1 | h1 <;> rw [h1] at h ⊢
    · cases h
    · cases hg : g T H with
      | fail => rw [hg] at h; cases h
      | val v G =>
        rw [hg] at h
        have h : (putT T dst v fun T => reC eqAV T G re .fail (stepsC eqAV E l T G .fail fun T H => Res.ok .norm T H)) = .ok e T' H' := h
        show putT T dst v fun T => reC eqAV T G re False (Stp.goesD P E eqAV l T G K)
        rw [putD_eq] at h ⊢
        rcases reC_sel eqAV (putD T dst v) G re with h2 | ⟨_, h2⟩ <;> rw [h2] at h ⊢
        · cases h
        · exact steps_goesD l _ _ h hk
      | call f args =>
        rw [hg] at h
        have h : RC.rec (motive := fun _ => Res) .fail (fun v G => putT T dst v fun T => reC eqAV T G re .fail (stepsC eqAV E l T G .fail fun T H => Res.ok .norm T H)) (E f args H) = .ok e T' H' := h
        show (match E f args H with | .fail => False | .ok v G => putT T dst v fun T => reC eqAV T G re False (Stp.goesD P E eqAV l T G K))
        cases hc : E f args H with
        | fail => rw [hc] at h; cases h
        | ok v G =>
          rw [hc] at h
          have h : (putT T dst v fun T => reC eqAV T G re .fail (stepsC eqAV E l T G .fail fun T H => Res.ok .norm T H)) = .ok e T' H' := h
          show putT T dst v fun T => reC eqAV T G re False (Stp.goesD P E eqAV l T G K)
          rw [putD_eq] at h ⊢
          rcases reC_sel eqAV (putD T dst v) G re with h2 | ⟨_, h2⟩ <;> rw [h2] at h ⊢
          · cases h
          · exact steps_goesD l _ _ h hk
    · rw [putD_eq] at h ⊢
      exact steps_goesD l _ _ h hk
theorem steps_norm {E : FuncId → List AV → Heap → RC} {l : List Stp} {T : Tr AV} {H : Heap} {e : Ex} {T' : Tr AV} {H' : Heap} (h : stepsC eqAV E l T H .fail (fun T H => Res.ok .norm T H) = .ok e T' H') : e = .norm := by
  rw [stepsC_eq] at h
  split at h
  · cases h; rfl
  · cases h

theorem evC_sound {E : FuncId → List AV → Heap → RC} (hE : Good P E) {N : Nat} {H0 : Heap} : ∀ (n : Nat) (c : CC) (T : Tr AV) (H : Heap) {e : Ex} {T' : Tr AV} {H' : Heap}, evC E n c T H = .ok e T' H' →
    ∀ {Q : Ex → Tr AV → Heap → Prop}, Q e T' H' → TriC P N H0 c T H Q := by
  intro n
  induction n using Nat.strongRecOn with
  | _ n ih =>
    intro c T H e T' H' h Q hq
    cases n with
    | zero => cases h
    | succ n =>
      have ih' := fun c T H {e T' H'} h {Q} hq => ih n (Nat.lt_succ_self n) c T H (e := e) (T' := T') (H' := H') h (Q := Q) hq
      cases c with
      | skip => cases h; exact .skip hq
      | ret => cases h; exact .ret hq
      | exit m => cases h; exact .exit hq
      | region l =>
        have h : stepsC eqAV E l T H .fail (fun T H => Res.ok .norm T H) = .ok e T' H' := h
        have := steps_norm h; subst this
        exact .region (steps_goes hE l T H h fun _ => hq)
      | regionD l =>
        have h : stepsC eqAV E l T H .fail (fun T H => Res.ok .norm T H) = .ok e T' H' := h
        have := steps_norm h; subst this
        exact .regionD hE (fun a b e => eqAV_eq e) (steps_goesD l T H h fun _ => hq)
      | seq x y =>
        have h : onNorm (evC E n x T H) (evC E n y) = .ok e T' H' := h
        refine .seq ?_
        cases h1 : evC E n x T H with
        | fail => rw [h1] at h; cases h
        | ok e1 T1 H1 =>
          rw [h1] at h
          refine ih' x T H h1 ?_
          cases e1 with
          | norm => exact ih' y T1 H1 h hq
          | exit m => cases h; exact hq
          | ret => cases h; exact hq
      | cond o x y =>
        have h : (withX T o .fail fun v => asBoolC v .fail fun b => bif' b (evC E n x T H) (evC E n y T H)) = .ok e T' H' := h
        rcases withX_eq T o Res.fail (fun v => asBoolC v .fail fun b => bif' b (evC E n x T H) (evC E n y T H)) with ⟨_, e1⟩ | ⟨v, hv, e1⟩ <;> rw [e1] at h
        · cases h
        · cases v <;> first | (cases h; done) | skip
          rename_i b
          cases b
          · exact .condF hv (ih' y T H h hq)
          · exact .condT hv (ih' x T H h hq)
      | block id x =>
        have h : onBlock (evC E n x T H) id = .ok e T' H' := h
        refine .block ?_
        cases h1 : evC E n x T H with
        | fail => rw [h1] at h; cases h
        | ok e1 T1 H1 =>
          rw [h1] at h
          refine ih' x T H h1 ?_
          cases e1 with
          | norm => cases h; exact hq
          | exit m =>
            have h : bif' (Nat.beq m id) (.ok .norm T1 H1) (.ok (.exit m) T1 H1) = Res.ok e T' H' := h
            show (if m = id then _ else _)
            by_cases hm : m = id
            · rw [if_pos hm]; subst hm; rw [show Nat.beq m m = true from Nat.beq_refl m] at h; cases h; exact hq
            · rw [if_neg hm]
              have : Nat.beq m id = false := by cases hb : Nat.beq m id; rfl; exact absurd (Nat.eq_of_beq_eq_true hb) hm
              rw [this] at h; cases h; exact hq
          | ret => cases h; exact hq
      | loop x =>
        refine TriC.loop (fun m T H => m ≤ n + 1 ∧ ∃ e T' H', evC E m (.loop x) T H = .ok e T' H' ∧ Q e T' H') ?_ (m := n + 1) ⟨Nat.le_refl _, e, T', H', h, hq⟩
        rintro m T H ⟨hm, e, T', H', h, hq⟩
        cases m with
        | zero => cases h
        | succ m =>
          have h : onNorm (evC E m x T H) (evC E m (.loop x)) = .ok e T' H' := h
          cases h1 : evC E m x T H with
          | fail => rw [h1] at h; cases h
          | ok e1 T1 H1 =>
            rw [h1] at h
            refine ih m (by omega) x T H h1 ?_
            cases e1 with
            | norm => exact ⟨m, Nat.lt_succ_self m, by omega, e, T', H', h, hq⟩
            | exit k => cases h; exact hq
            | ret => cases h; exact hq

/-! ### A call that has no addresses -/
def AV.flat : AV → Bool
  | .bool _ | .int _ _ | .str _ | .nilp | .nils | .nilf | .nili | .nilm => true
  | _ => false
theorem flat_rel {v : AV} {x : Value} (hf : v.flat = true) (h : VRel P φ v x) (ψ : Phi) : VRel P ψ v x := by
  cases h <;> first | (cases hf; done) | skip
  · exact .bool _
  · exact .int _ _
  · exact .str _ _ (by assumption)
  · exact .nilp
  · exact .nils
  · exact .nilf
  · exact .nili
  · exact .nilm
theorem flats_rel (ψ : Phi) {l : List AV} {l' : List Value} (hf : l.all AV.flat = true) (h : VRels P φ l l') : VRels P ψ l l' := by
  induction l generalizing l' with
  | nil => cases h; exact .nil
  | cons v l ih =>
    cases h with
    | cons _ _ v' l' h hs =>
      rw [List.all_cons, Bool.and_eq_true] at hf
      exact .cons _ _ _ _ (flat_rel hf.1 h ψ) (ih hf.2 hs)
/-- memory without anything -/
noncomputable def hp0 : Heap := .mk .z .lf
theorem hp0_get (k : K) : hp0.get k = none := Tr.get_lf k
theorem WRel.to0 (hw : WRel P φ H w) : WRel P (fun _ => none) hp0 w := by
  refine ⟨⟨fun k a h => (by cases h), fun k b h => (by rw [hp0_get] at h; cases h), fun k b a h => (by rw [hp0_get] at h; cases h), fun j k c d x y _ h => (by rw [hp0_get] at h; cases h), fun k a h => (by cases h)⟩, fun g v hm => ⟨(hw.rom g v hm).1, ?_⟩⟩
  rintro ⟨k, c, a, hk, _⟩
  rw [hp0_get] at hk; cases hk
theorem FnOk.lift0 {f : FuncId} {args : List AV} {v : AV} (ha : args.all AV.flat = true) (hv : v.flat = true) (h : FnOk P f args hp0 fun r _ => r = v) : FnOk P f args H fun r G => r = v ∧ G = H := by
  intro φ w args' hargs hw
  refine (h (fun _ => none) w args' (flats_rel _ ha hargs) hw.to0).mono ?_
  rintro e u ⟨_, G, rfl, ψ, x, rfl, hx, hwu, hE⟩
  have hno : ∀ b, b < w.heap.size → u.heap[b]? = w.heap[b]? := by
    intro b hb
    refine hE.keeps b hb ?_
    rintro ⟨k, c, a, hk, _⟩
    rw [hp0_get] at hk; cases hk
  exact ⟨_, H, ⟨rfl, rfl⟩, φ, x, rfl, flat_rel hv hx φ, hw.grows hE.size hno, ⟨fun _ _ => rfl, Nat.le_refl _, hE.size, fun b hb _ => hno b hb, fun _ _ _ => rfl, fun _ _ h => h, hE.os, hE.tape, hE.output⟩⟩
end Go.Ev
/- Known answers handed to the evaluator; slices.Insert at a slice of one's own. -/

set_option linter.all false
namespace Go.Ev
variable {P : Program} {φ : Phi} {H : Heap}

noncomputable def X0 : Orc := fun _ _ _ => none
theorem good_X0 : GoodX P X0 := fun _ _ _ _ h => by cases h
/-- one function more is known -/
noncomputable def orX (F : FuncId) (A : List AV → Heap → Option RC) (X : Orc) : Orc := fun f args H => bif' (Nat.beq f F) (A args H) (X f args H)
theorem good_orX {F : FuncId} {A : List AV → Heap → Option RC} {X : Orc} (hA : ∀ args H v G, A args H = some (.ok v G) → FnOk P F args H fun v' G' => v' = v ∧ G' = G) (hX : GoodX P X) : GoodX P (orX F A X) := by
  intro f args H r h v G hr
  unfold orX at h
  cases hb : Nat.beq f F with
  | true =>
    rw [hb, bif_true] at h
    have := Nat.eq_of_beq_eq_true hb; subst this; subst hr
    exact hA args H v G h
  | false => rw [hb, bif_false] at h; exact hX f args H r h v G hr

noncomputable def insOwnA (esz bytes : Nat) (x : List AV) (kv k : K) (m n : Nat) (rows : List (List AV)) (H : Heap) : Option RC :=
  bif' (Nat.beq rows.length n) (bif' (K.beq kv k) none (bif' (Nat.ble m n) (bif' (Nat.ble (n + 1) 4294967295) (bif' (Nat.ble ((2 * (n + 1) + 192) * bytes) 281474976710656)
    (fL (rows.take m ++ x :: rows.drop m) fun rows => H.setC k .dead fun H => H.addC (.row true esz rows) fun k H => fN (n + 1) fun n => some (.ok (.slice k 0 n esz false n) H)) none) none) none)) none
noncomputable def insA (esz bytes : Nat) (args : List AV) (H : Heap) : Option RC :=
  match args with
  | [s, .int .i64 (.ofNat m), .slice kv 0 1 es true 1] => bif' (Nat.beq es esz) (match H.get kv with
    | some (.row true es1 [x]) => bif' (Nat.beq es1 esz) (match s with
      | .nils => bif' (Nat.beq m 0) (bif' (Nat.ble (194 * bytes) 281474976710656) (H.addC (.row true esz [x]) fun k H => some (.ok (.slice k 0 1 esz false 1) H)) none) none
      | .slice k 0 n es2 ex cap => bif' (Nat.beq es2 esz) (match H.get k with
        | some (.row true es3 rows) => bif' (Nat.beq es3 esz) (match n, ex, rows with
          | 0, true, [] => bif' (Nat.beq cap 0) (bif' (Nat.beq m 0) (bif' (Nat.ble (194 * bytes) 281474976710656) (H.addC (.row true esz [x]) fun k H => some (.ok (.slice k 0 1 esz false 1) H)) none) none) none
          | n + 1, false, rows => bif' (Nat.beq cap (n + 1)) (insOwnA esz bytes x kv k m (n + 1) rows H) none
          | _, _, _ => none) none
        | _ => none) none
      | _ => none) none
    | _ => none) none
  | _ => none
theorem insA_sound {F : FuncId} {esz bytes : Nat} {zero : List AV} (hf : InsFn P F esz bytes zero) (args : List AV) (H : Heap) (v : AV) (G : Heap) (h : insA esz bytes args H = some (.ok v G)) : FnOk P F args H fun v' G' => v' = v ∧ G' = G := by
  unfold insA at h
  split at h
  case h_2 => cases h
  rename_i s m kv es
  have b1 : ∀ {α : Type} (a b : Nat) (x : Option α) (y : α), bif' (Nat.beq a b) x none = some y → a = b ∧ x = some y := by
    intro α a b x y e
    cases hb : Nat.beq a b with
    | true => rw [hb] at e; exact ⟨Nat.eq_of_beq_eq_true hb, e⟩
    | false => rw [hb] at e; cases e
  have b2 : ∀ {α : Type} (a b : Nat) (x : Option α) (y : α), bif' (Nat.ble a b) x none = some y → a ≤ b ∧ x = some y := by
    intro α a b x y e
    cases hb : Nat.ble a b with
    | true => rw [hb] at e; exact ⟨Nat.le_of_ble_eq_true hb, e⟩
    | false => rw [hb] at e; cases e
  obtain ⟨rfl, h⟩ := b1 _ _ _ _ h
  split at h
  case h_2 => cases h
  rename_i es1 x hv
  obtain ⟨rfl, h⟩ := b1 _ _ _ _ h
  split at h
  case h_3 => cases h
  · obtain ⟨rfl, h⟩ := b1 _ _ _ _ h
    obtain ⟨hb, h⟩ := b2 _ _ _ _ h
    rw [Heap.addC_eq] at h
    cases h
    exact insert_nil hf hv hb
  · rename_i k n es2 ex cap g1 g2
    clear g1 g2
    obtain ⟨rfl, h⟩ := b1 _ _ _ _ h
    split at h
    case h_2 => cases h
    rename_i es3 rows hg
    obtain ⟨rfl, h⟩ := b1 _ _ _ _ h
    split at h
    case h_3 => cases h
    · obtain ⟨e1, h⟩ := b1 _ _ _ _ h
      obtain ⟨e2, h⟩ := b1 _ _ _ _ h
      obtain ⟨hb, h⟩ := b2 _ _ _ _ h
      rw [Heap.addC_eq] at h
      cases h
      rw [e1, e2]
      exact insert_zero hf hv hg hb
    · rename_i n rows'
      obtain ⟨e1, h⟩ := b1 _ _ _ _ h
      rw [e1]
      unfold insOwnA at h
      obtain ⟨hl, h⟩ := b1 _ _ _ _ h
      cases hk : K.beq kv k with
      | true => rw [hk] at h; cases h
      | false =>
      rw [hk, bif_false] at h
      have hkk : kv ≠ k := fun e => by rw [(K.beq_iff _ _).2 e] at hk; cases hk
      obtain ⟨hm, h⟩ := b2 _ _ _ _ h
      obtain ⟨hn, h⟩ := b2 _ _ _ _ h
      obtain ⟨hb, h⟩ := b2 _ _ _ _ h
      rw [fL_eq, Heap.setC_eq, Heap.addC_eq, fN_eq] at h
      cases h
      have := insert_own hf hkk hv hg (by omega) (by omega) (by omega) (by rw [hl]; exact hb) (i := m)
      rw [hl] at this
      exact this
end Go.Ev
/- Known answers: errors.Is and errors.As at numbers. -/

set_option linter.all false
namespace Go.Ev
variable {P : Program} {φ : Phi} {H : Heap} {w : World}
/-- errors.Is of a number (of type t), or none -/
noncomputable def isA (t : Nat) (args : List AV) (H : Heap) : Option RC :=
  match args with
  | [.nili, .iface t2 (.int .i64 b)] => bif' (Nat.beq t2 t) (some (.ok (.bool false) H)) none
  | [.iface t1 (.int .i64 a), .iface t2 (.int .i64 b)] => bif' (Nat.beq t1 t) (bif' (Nat.beq t2 t) (eqI a b fun z => some (.ok (.bool z) H)) none) none
  | _ => none
/-- errors.As of a number (of type t), or none, at a number's pointer (of type tp), at one of another type (tb) -/
noncomputable def asA (t tp tb : Nat) (args : List AV) (H : Heap) : Option RC :=
  match args with
  | [.nili, _] => some (.ok (.bool false) H)
  | [.iface t1 (.int .i64 a), .iface t2 (.ptr k 0)] => bif' (Nat.beq t1 t) (bif' (Nat.beq t2 tb) (some (.ok (.bool false) H)) (bif' (Nat.beq t2 tp)
    (match H.get k with
      | some (.row true 1 [[x]]) => H.setC k (.row true 1 [[.int .i64 a]]) fun H => some (.ok (.bool true) H)
      | _ => none) none)) none
  | _ => none
theorem cell_of_row (hw : WRel P φ H w) {k : K} {x : AV} {a : At} (hk : H.get k = some (.row true 1 [[x]])) (hφ : φ k = some a) : ∃ v, w.cell? ⟨a.b, a.o, none⟩ = some v ∧ VRel P φ x v ∧ w.frozen? ⟨a.b, a.o, none⟩ = false := by
  obtain ⟨hp, _, pre, vs, post, e, lo, hi, g1, g2, g3, g4, g5, g6⟩ := hw.blk k _ a hk hφ
  have g5 : VRels P φ [x] vs := g5
  cases g5 with
  | cons _ _ v l h1 h2 =>
    cases h2
    refine ⟨v, ?_, h1, ?_⟩
    · simp only [World.cell?, g1]
      simp [← g2]
    · simp only [World.frozen?, g1]
      have h4 := g4 rfl
      simp at g3 ⊢
      omega
/-- a call that writes a number into a cell -/
theorem FnOk.of_calls_set {f : FuncId} {args : List AV} {k : K} {x y v : AV} {y' : Value} (hk : H.get k = some (.row true 1 [[x]])) (hy : ∀ φ, VRel P φ y y') (hone : y'.oneCell' = true) (hv : ∀ φ, ∃ v', VRel P φ v v')
    (h : ∀ φ w args', VRels P φ args args'.toList → WRel P φ H w → ∃ a, φ k = some a ∧ ∀ old, w.cell? ⟨a.b, a.o, none⟩ = some old → w.frozen? ⟨a.b, a.o, none⟩ = false →
      Calls P f args' w fun e u => (∃ v', e = .returned v' ∧ VRel P φ v v') ∧ ∃ w4, Grows w w4 ∧ u = w4.setCell ⟨a.b, a.o, none⟩ y') :
    FnOk P f args H fun r G => r = v ∧ G = H.set k (.row true 1 [[y]]) := by
  intro φ w args' ha hw
  obtain ⟨a, hφ, hc⟩ := h φ w args' ha hw
  obtain ⟨old, h1, _, h2⟩ := cell_of_row hw hk hφ
  refine (hc old h1 h2).mono ?_
  rintro e u ⟨⟨v', rfl, hv'⟩, w4, hg, rfl⟩
  have hw4 := hw.grows hg.size hg.old
  obtain ⟨old4, h14, _, h24⟩ := cell_of_row hw4 hk hφ
  obtain ⟨u, hst, hwu, hE⟩ := storeCells_sound (off := 0) (vals := [y]) (vals' := [y']) (rows' := [[y]]) hw4 hk hφ (.cons _ _ _ _ (hy φ) .nil) (by intro z hz; rw [List.mem_singleton.1 hz]; exact hone) (put_rows 1 [[x]] [[y]] 0 (by intro z hz; rw [List.mem_singleton.1 hz]; rfl) (by intro z hz; rw [List.mem_singleton.1 hz]; rfl) (Nat.le_refl 1))
  have hst' : (storeCells ⟨a.b, a.o, none⟩ [y']).run P w4 = .ok () (w4.setCell ⟨a.b, a.o, none⟩ y') := by
    simp only [storeCells, Addr.add, Sem.run_bind, Nat.add_zero, if_true]
    rw [run_store P w4 _ _ _ hone, h14]
    simp [h24]
  rw [Nat.add_zero] at hst
  rw [hst] at hst'
  injection hst' with _ hu
  subst hu
  refine ⟨v, _, ⟨rfl, rfl⟩, φ, v', rfl, hv', hwu, ?_⟩
  exact ⟨hE.phi, hE.nx, Nat.le_trans hg.size hE.size, fun b hb hn => by rw [hE.keeps b (Nat.lt_of_lt_of_le hb hg.size) hn, hg.old b hb], hE.hidden, fun b hb ho => hE.own b (Nat.lt_of_lt_of_le hb hg.size) ho, hE.os.trans hg.os, hE.tape.trans hg.tape, hE.output.trans hg.output⟩
theorem two_args {φ : Phi} {a b : AV} {args : Array Value} (h : VRels P φ [a, b] args.toList) : ∃ v u, args = #[v, u] ∧ VRel P φ a v ∧ VRel P φ b u := by
  cases hl : args.toList with
  | nil => rw [hl] at h; cases h
  | cons v l =>
    rw [hl] at h
    cases h with
    | cons _ _ _ _ h1 h2 =>
      cases h2 with
      | cons _ _ u _ h3 h4 =>
        cases h4
        exact ⟨v, u, by rw [← Array.toArray_toList (xs := args), hl], h1, h3⟩
/-- the answer is yes -/
noncomputable def okB (r : RC) : Bool := RC.rec (motive := fun _ => Bool) false (fun v _ => asBoolC v false fun b => b) r
theorem okB_eq {r : RC} (h : okB r = true) : ∃ G, r = .ok (.bool true) G := by
  cases r with
  | fail => cases h
  | ok v G =>
    cases v <;> first | (cases h; done) | skip
    rename_i b
    cases b
    · cases h
    · exact ⟨G, rfl⟩
theorem FnOk.of_evB {X : Orc} (hX : GoodX P X) {n : Nat} {f : FuncId} {args : List AV} (h : okB (evFn P X n f args H) = true) : FnOk P f args H fun v _ => v = .bool true := by
  obtain ⟨G, hG⟩ := okB_eq h
  exact (FnOk.of_ev hX hG).mono fun _ _ h => h.1
end Go.Ev
/- What is still to be done, reckoned. -/

set_option linter.all false
namespace Go.Ev
variable {P : Program} {φ ψ : Phi} {H : Heap} {w u : World} {T : Tr AV}

theorem isC_of {β : Type} {eqv : AV → AV → Bool} {T : Tr AV} {k : Option K} {v : AV} (h : Holds eqv T k v) (f c : β) : isC eqv T k v f c = c := by
  rcases isC_sel eqv T k v with h1 | ⟨_, h1⟩
  · exfalso
    cases k with
    | none => have := h1 (β := Bool) true false; cases this
    | some k =>
      obtain ⟨u, hu, he⟩ := h k rfl
      have h2 := h1 (β := Bool) true false
      have h3 : isC eqv T (some k) v true false = Option.rec (motive := fun _ => Bool) true (fun u => bif' (eqv v u) false true) (T.get k) := rfl
      rw [h3, hu] at h2
      have h4 : bif' (eqv v u) false true = true := h2
      rw [he] at h4
      cases h4
  · exact h1 f c
theorem Holds.imp {eqv eqw : AV → AV → Bool} (hi : ∀ a b, eqv a b = true → eqw a b = true) {T : Tr AV} {k : Option K} {v : AV} (h : Holds eqv T k v) : Holds eqw T k v :=
  fun k' hk => by obtain ⟨u, h1, h2⟩ := h k' hk; exact ⟨u, h1, hi _ _ h2⟩
theorem reC_of {β : Type} {eqv eqw : AV → AV → Bool} (hi : ∀ a b, eqv a b = true → eqw a b = true) {T : Tr AV} {H : Heap} : ∀ {re : List Rk}, (∀ r ∈ re, Seen eqv T H r) → ∀ (f c : β), reC eqw T H re f c = c
  | [], _, f, c => rfl
  | .mk g k gd :: re, h, f, c => by
    have hrw : reC eqw T H (.mk g k gd :: re) f c = gdC T gd f (R1.rec (motive := fun _ => β) f (fun v _ => isC eqw T k v f (reC eqw T H re f c)) (fun _ _ => f) (g T H)) (isC eqw T k (.tup []) f (reC eqw T H re f c)) := rfl
    have ih := reC_of hi (T := T) (H := H) (re := re) (fun r hr => h r (List.mem_cons_of_mem _ hr)) f c
    rw [hrw, ih]
    rcases h _ (List.mem_cons_self ..) with ⟨h1, v, G, hg, hh⟩ | ⟨h1, hh⟩
    · rw [h1, hg]
      exact isC_of (hh.imp hi) f c
    · rw [h1]
      exact isC_of (hh.imp hi) f c
theorem eqAV_eqvC (a b : AV) (h : eqAV a b = true) : eqvC a b = true := by
  have := eqAV_eq h; subst this; exact eqvC_refl a
theorem steps_goesDc {E : FuncId → List AV → Heap → RC} : ∀ (l : List Stp) (T : Tr AV) (H : Heap) {e : Ex} {T' : Tr AV} {H' : Heap} {K : Tr AV → Heap → Prop},
    stepsC eqAV E l T H .fail (fun T H => Res.ok .norm T H) = .ok e T' H' → (e = .norm → K T' H') → Stp.goesD P E eqvC l T H K
  | [], T, H, e, T', H', K, h, hk => by
    have h : Res.ok .norm T H = .ok e T' H' := h
    cases h; exact hk rfl
  | .mk g dst gd re :: l, T, H, e, T', H', K, h, hk => by
    have h : gdC T gd .fail
      (R1.rec (motive := fun _ => Res) .fail (fun v G => putT T dst v fun T => reC eqAV T G re .fail (stepsC eqAV E l T G .fail fun T H => Res.ok .norm T H)) (fun fn args => RC.rec (motive := fun _ => Res) .fail (fun v G => putT T dst v fun T => reC eqAV T G re .fail (stepsC eqAV E l T G .fail fun T H => Res.ok .norm T H)) (E fn args H)) (g T H))
      (putT T dst (.tup []) fun T => stepsC eqAV E l T H .fail fun T H => Res.ok .norm T H) = .ok e T' H' := h
    show gdC T gd False
      (match g T H with
        | .fail => False
        | .val v G => putT T dst v fun T => reC eqvC T G re False (Stp.goesD P E eqvC l T G K)
        | .call f args => match E f args H with | .fail => False | .ok v G => putT T dst v fun T => reC eqvC T G re False (Stp.goesD P E eqvC l T G K))
      (putT T dst (.tup []) fun T => Stp.goesD P E eqvC l T H K)
    rcases gdC_sel T gd with h1 | h1 | h1 <;> rw [h1] at h ⊢
    · cases h
    · cases hg : g T H with
      | fail => rw [hg] at h; cases h
      | val v G =>
        rw [hg] at h
        have h : (putT T dst v fun T => reC eqAV T G re .fail (stepsC eqAV E l T G .fail fun T H => Res.ok .norm T H)) = .ok e T' H' := h
        show putT T dst v fun T => reC eqvC T G re False (Stp.goesD P E eqvC l T G K)
        rw [putD_eq] at h ⊢
        rcases reC_sel eqAV (putD T dst v) G re with h2 | ⟨hs, h2⟩ <;> rw [h2] at h
        · cases h
        · rw [reC_of eqAV_eqvC hs]; exact steps_goesDc l _ _ h hk
      | call f args =>
        rw [hg] at h
        have h : RC.rec (motive := fun _ => Res) .fail (fun v G => putT T dst v fun T => reC eqAV T G re .fail (stepsC eqAV E l T G .fail fun T H => Res.ok .norm T H)) (E f args H) = .ok e T' H' := h
        show (match E f args H with | .fail => False | .ok v G => putT T dst v fun T => reC eqvC T G re False (Stp.goesD P E eqvC l T G K))
        cases hc : E f args H with
        | fail => rw [hc] at h; cases h
        | ok v G =>
          rw [hc] at h
          have h : (putT T dst v fun T => reC eqAV T G re .fail (stepsC eqAV E l T G .fail fun T H => Res.ok .norm T H)) = .ok e T' H' := h
          show putT T dst v fun T => reC eqvC T G re False (Stp.goesD P E eqvC l T G K)
          rw [putD_eq] at h ⊢
          rcases reC_sel eqAV (putD T dst v) G re with h2 | ⟨hs, h2⟩ <;> rw [h2] at h
          · cases h
          · rw [reC_of eqAV_eqvC hs]; exact steps_goesDc l _ _ h hk
    · rw [putD_eq] at h ⊢
      exact steps_goesDc l _ _ h hk
theorem evC_wpc {E : FuncId → List AV → Heap → RC} (hE : Good P E) {N : Nat} {H0 : Heap} : ∀ (n : Nat) (c : CC) (T : Tr AV) (H : Heap) {e : Ex} {T' : Tr AV} {H' : Heap}, evC E n c T H = .ok e T' H' →
    ∀ {Q : Ex → Tr AV → Heap → Prop}, Q e T' H' → wpc P E N H0 c T H Q := by
  intro n
  induction n with
  | zero => intro c T H e T' H' h; cases h
  | succ n ih =>
    intro c T H e T' H' h Q hq
    cases c with
    | skip => cases h; exact hq
    | ret => cases h; exact hq
    | exit m => cases h; exact hq
    | region l =>
      have h : stepsC eqAV E l T H .fail (fun T H => Res.ok .norm T H) = .ok e T' H' := h
      have := steps_norm h; subst this
      exact steps_goes hE l T H h fun _ => hq
    | regionD l =>
      have h : stepsC eqAV E l T H .fail (fun T H => Res.ok .norm T H) = .ok e T' H' := h
      have := steps_norm h; subst this
      exact steps_goesDc l T H h fun _ => hq
    | seq x y =>
      have h : onNorm (evC E n x T H) (evC E n y) = .ok e T' H' := h
      show wpc P E N H0 x T H (behind (fun T H => wpc P E N H0 y T H Q) Q)
      cases h1 : evC E n x T H with
      | fail => rw [h1] at h; cases h
      | ok e1 T1 H1 =>
        rw [h1] at h
        refine ih x T H h1 ?_
        cases e1 with
        | norm => exact ih y T1 H1 h hq
        | exit m => cases h; exact hq
        | ret => cases h; exact hq
    | cond o x y =>
      have h : (withX T o .fail fun v => asBoolC v .fail fun b => bif' b (evC E n x T H) (evC E n y T H)) = .ok e T' H' := h
      show condP (evX T o) (wpc P E N H0 x T H Q) (wpc P E N H0 y T H Q)
      rcases withX_eq T o Res.fail (fun v => asBoolC v .fail fun b => bif' b (evC E n x T H) (evC E n y T H)) with ⟨_, e1⟩ | ⟨v, hv, e1⟩ <;> rw [e1] at h
      · cases h
      · rw [hv]
        cases v <;> first | (cases h; done) | skip
        rename_i b
        cases b
        · exact ih y T H h hq
        · exact ih x T H h hq
    | block id x =>
      have h : onBlock (evC E n x T H) id = .ok e T' H' := h
      show wpc P E N H0 x T H (outOf id Q)
      cases h1 : evC E n x T H with
      | fail => rw [h1] at h; cases h
      | ok e1 T1 H1 =>
        rw [h1] at h
        refine ih x T H h1 ?_
        cases e1 with
        | norm => cases h; exact hq
        | exit m =>
          have h : bif' (Nat.beq m id) (.ok .norm T1 H1) (.ok (.exit m) T1 H1) = Res.ok e T' H' := h
          show (if m = id then _ else _)
          by_cases hm : m = id
          · rw [if_pos hm]; subst hm; rw [show Nat.beq m m = true from Nat.beq_refl m] at h; cases h; exact hq
          · rw [if_neg hm]
            have : Nat.beq m id = false := by cases hb : Nat.beq m id; rfl; exact absurd (Nat.eq_of_beq_eq_true hb) hm
            rw [this] at h; cases h; exact hq
        | ret => cases h; exact hq
    | loop x => exact evC_sound hE (n + 1) (.loop x) T H h hq

/-- the items that are left, reckoned behind one another -/
noncomputable def evI (E : FuncId → List AV → Heap → RC) (n : Nat) (k : List It) : Ex → Tr AV → Heap → Res :=
  List.rec (motive := fun _ => Ex → Tr AV → Heap → Res) (fun e T H => .ok e T H)
    (fun i _ ih e T H => Ex.rec (motive := fun _ => Res)
      (It.rec (motive := fun _ => Res)
        (fun l => Res.rec (motive := fun _ => Res) .fail (fun e T H => ih e T H) (stepsC eqAV E l T H .fail fun T H => .ok .norm T H))
        (fun l => Res.rec (motive := fun _ => Res) .fail (fun e T H => ih e T H) (stepsC eqAV E l T H .fail fun T H => .ok .norm T H))
        (fun c => Res.rec (motive := fun _ => Res) .fail (fun e T H => ih e T H) (evC E n c T H))
        (fun _ => ih .norm T H) i)
      (fun m => It.rec (motive := fun _ => Res) (fun _ => ih (.exit m) T H) (fun _ => ih (.exit m) T H) (fun _ => ih (.exit m) T H)
        (fun id => bif' (Nat.beq m id) (ih .norm T H) (ih (.exit m) T H)) i)
      (ih .ret T H) e) k
theorem evI_sound {E : FuncId → List AV → Heap → RC} (hE : Good P E) {N : Nat} {H0 : Heap} (n : Nat) : ∀ (k : List It) (e : Ex) (T : Tr AV) (H : Heap) {e' : Ex} {T' : Tr AV} {H' : Heap}, evI E n k e T H = .ok e' T' H' →
    ∀ {Q : Ex → Tr AV → Heap → Prop}, Q e' T' H' → postW P E N H0 k Q e T H
  | [], e, T, H, e', T', H', h, Q, hq => by cases h; exact hq
  | i :: k, e, T, H, e', T', H', h, Q, hq => by
    have ih := fun e T H h => evI_sound hE (N := N) (H0 := H0) n k e T H (e' := e') (T' := T') (H' := H') h (Q := Q) hq
    cases e with
    | norm =>
      cases i with
      | reg l =>
        have h : Res.rec (motive := fun _ => Res) .fail (fun e T H => evI E n k e T H) (stepsC eqAV E l T H .fail fun T H => .ok .norm T H) = .ok e' T' H' := h
        cases h1 : stepsC eqAV E l T H .fail (fun T H => Res.ok .norm T H) with
        | fail => rw [h1] at h; cases h
        | ok e1 T1 H1 =>
          rw [h1] at h
          have := steps_norm h1; subst this
          exact steps_goes hE l T H h1 fun _ => ih .norm T1 H1 h
      | regD l =>
        have h : Res.rec (motive := fun _ => Res) .fail (fun e T H => evI E n k e T H) (stepsC eqAV E l T H .fail fun T H => .ok .norm T H) = .ok e' T' H' := h
        cases h1 : stepsC eqAV E l T H .fail (fun T H => Res.ok .norm T H) with
        | fail => rw [h1] at h; cases h
        | ok e1 T1 H1 =>
          rw [h1] at h
          have := steps_norm h1; subst this
          exact steps_goesDc l T H h1 fun _ => ih .norm T1 H1 h
      | code c =>
        have h : Res.rec (motive := fun _ => Res) .fail (fun e T H => evI E n k e T H) (evC E n c T H) = .ok e' T' H' := h
        cases h1 : evC E n c T H with
        | fail => rw [h1] at h; cases h
        | ok e1 T1 H1 =>
          rw [h1] at h
          exact evC_wpc hE n c T H h1 (ih e1 T1 H1 h)
      | inB id => exact ih .norm T H h
    | exit m =>
      cases i with
      | reg l => exact ih (.exit m) T H h
      | regD l => exact ih (.exit m) T H h
      | code c => exact ih (.exit m) T H h
      | inB id =>
        have h : bif' (Nat.beq m id) (evI E n k .norm T H) (evI E n k (.exit m) T H) = .ok e' T' H' := h
        show (if m = id then _ else _)
        by_cases hm : m = id
        · rw [if_pos hm]; subst hm; rw [show Nat.beq m m = true from Nat.beq_refl m] at h; exact ih .norm T H h
        · rw [if_neg hm]
          have : Nat.beq m id = false := by cases hb : Nat.beq m id; rfl; exact absurd (Nat.eq_of_beq_eq_true hb) hm
          rw [this] at h; exact ih (.exit m) T H h
    | ret =>
      cases i <;> exact ih .ret T H h
/-- all that is left, reckoned: is the function's answer yes? -/
noncomputable def evB (E : FuncId → List AV → Heap → RC) (n : Nat) (k : List It) (kr : K) (T : Tr AV) (H : Heap) : Bool :=
  Res.rec (motive := fun _ => Bool) false (fun e T _ => Ex.rec (motive := fun _ => Bool)
    (Option.rec (motive := fun _ => Bool) false (fun v => asBoolC v false fun b => b) (T.get kr)) (fun _ => false)
    (Option.rec (motive := fun _ => Bool) false (fun v => asBoolC v false fun b => b) (T.get kr)) e) (evI E n k .norm T H)
theorem evB_sound {E : FuncId → List AV → Heap → RC} (hE : Good P E) {N : Nat} {H0 : Heap} {n : Nat} {k : List It} {kr : K} {T : Tr AV} {H : Heap} (h : evB E n k kr T H = true) {Q : Ex → Tr AV → Heap → Prop}
    (hq : ∀ e T' H', e.over → T'.get kr = some (.bool true) → Q e T' H') : WW P E N H0 k T H Q := by
  unfold evB at h
  cases h1 : evI E n k .norm T H with
  | fail => rw [h1] at h; cases h
  | ok e T1 H1 =>
    rw [h1] at h
    refine evI_sound hE n k .norm T H h1 ?_
    have fin : (Option.rec (motive := fun _ => Bool) false (fun v => asBoolC v false fun b => b) (T1.get kr) : Bool) = true → T1.get kr = some (.bool true) := by
      intro h
      cases hk : T1.get kr with
      | none => rw [hk] at h; cases h
      | some v =>
        rw [hk] at h
        cases v <;> first | (cases h; done) | skip
        rename_i b
        cases b
        · cases h
        · rfl
    cases e with
    | norm => exact hq _ _ _ trivial (fin h)
    | exit m => cases h
    | ret => exact hq _ _ _ trivial (fin h)
/-- a call, and all that is left behind it -/
noncomputable def evCL (E : FuncId → List AV → Heap → RC) (n : Nat) (kr : K) (f : FuncId) (args : List AV) (d : Option K) (k : List It) (T : Tr AV) (H : Heap) : Bool :=
  RC.rec (motive := fun _ => Bool) false (fun v G => putT T d v fun T => evB E n k kr T G) (E f args H)
theorem CL.ev {E : FuncId → List AV → Heap → RC} (hE : Good P E) {N : Nat} {H0 : Heap} {n : Nat} {kr : K} {f : FuncId} {args : List AV} {d : Option K} {k : List It} {T : Tr AV} {H : Heap} {Q : Ex → Tr AV → Heap → Prop}
    (h : evCL E n kr f args d k T H = true) (hq : ∀ e T' H', e.over → T'.get kr = some (.bool true) → Q e T' H') : CL P E N H0 f args d k T H Q := by
  unfold evCL at h
  cases hc : E f args H with
  | fail => rw [hc] at h; cases h
  | ok v G =>
    rw [hc] at h
    have h : (putT T d v fun T => evB E n k kr T G) = true := h
    rw [putD_eq] at h
    have hf : FnOk P f args H fun v' G' => v' = v ∧ G' = G := fun φ w args' ha hw => (hE f args H v G hc φ w args' ha hw).mono fun e u hr => ⟨v, G, ⟨rfl, rfl⟩, hr⟩
    refine CL.of hf ?_
    rintro _ _ ⟨rfl, rfl⟩
    exact evB_sound hE h hq
/-- of all numbers below n -/
noncomputable def allN (n : Nat) (f : Nat → Bool) : Bool := Nat.rec (motive := fun _ => Bool) true (fun i r => bif' (f i) r false) n
theorem allN_of {f : Nat → Bool} : ∀ {n : Nat}, allN n f = true → ∀ i, i < n → f i = true
  | 0, _, i, hi => absurd hi (Nat.not_lt_zero i)
  | n + 1, h, i, hi => by
    have h : bif' (f n) (allN n f) false = true := h
    cases hn : f n with
    | false => rw [hn] at h; cases h
    | true =>
      rw [hn] at h
      rcases Nat.lt_or_eq_of_le (Nat.le_of_lt_succ hi) with h1 | rfl
      · exact allN_of h i h1
      · exact hn
theorem allN2 {a b : Nat} {f : Nat → Nat → Bool} (h : allN a (fun i => allN b (f i)) = true) : ∀ i, i < a → ∀ j, j < b → f i j = true := fun i hi j hj => allN_of (allN_of h i hi) j hj
/-- the memory that is left -/
noncomputable def resH (r : RC) : Heap := RC.rec (motive := fun _ => Heap) hp0 (fun _ G => G) r
/-- is that what comes of it? -/
noncomputable def isR (r : RC) (v : AV) : Bool := RC.rec (motive := fun _ => Bool) false (fun w _ => eqAV w v) r
theorem FnOk.of_evV {X : Orc} (hX : GoodX P X) {n : Nat} {f : FuncId} {args : List AV} {v : AV} (h : isR (evFn P X n f args H) v = true) : FnOk P f args H fun v' G => v' = v ∧ G = resH (evFn P X n f args H) := by
  cases hr : evFn P X n f args H with
  | fail => rw [hr] at h; cases h
  | ok w G =>
    rw [hr] at h
    have h : eqAV w v = true := h
    rw [← eqAV_eq h]
    exact FnOk.of_ev hX hr
end Go.Ev
/- Calls whose arguments hold no address: reckoned without memory, they are so in any memory. -/

set_option linter.all false
namespace Go.Ev
variable {P : Program} {φ ψ : Phi} {H : Heap} {w u : World}
def AV.flat1 : AV → Bool
  | .agg l => l.all AV.flat
  | v => v.flat
theorem flat1_rel {v : AV} {x : Value} (hf : v.flat1 = true) (h : VRel P φ v x) (ψ : Phi) : VRel P ψ v x := by
  cases v with
  | agg l =>
    cases h with
    | agg _ c h1 h2 => exact .agg _ _ (flats_rel ψ hf h1) h2
  | _ => exact flat_rel (by exact hf) h ψ
theorem flats1_rel (ψ : Phi) {l : List AV} {l' : List Value} (hf : l.all AV.flat1 = true) (h : VRels P φ l l') : VRels P ψ l l' := by
  induction l generalizing l' with
  | nil => cases h; exact .nil
  | cons v l ih =>
    cases h with
    | cons _ _ v' l' h hs =>
      rw [List.all_cons, Bool.and_eq_true] at hf
      exact .cons _ _ _ _ (flat1_rel hf.1 h ψ) (ih hf.2 hs)
def AV.flat2 : AV → Bool
  | .tup l => l.all AV.flat1
  | v => v.flat1
theorem flat2_rel {v : AV} {x : Value} (hf : v.flat2 = true) (h : VRel P φ v x) (ψ : Phi) : VRel P ψ v x := by
  cases v with
  | tup l =>
    cases h with
    | tup _ c h1 => exact .tup _ _ (flats1_rel ψ hf h1)
  | _ => exact flat1_rel (by exact hf) h ψ
theorem FnOk.lift1 {f : FuncId} {args : List AV} {v : AV} (ha : args.all AV.flat1 = true) (hv : v.flat2 = true) (h : FnOk P f args hp0 fun r _ => r = v) : FnOk P f args H fun r G => r = v ∧ G = H := by
  intro φ w args' hargs hw
  refine (h (fun _ => none) w args' (flats1_rel _ ha hargs) hw.to0).mono ?_
  rintro e u ⟨_, G, rfl, ψ, x, rfl, hx, hwu, hE⟩
  have hno : ∀ b, b < w.heap.size → u.heap[b]? = w.heap[b]? := by
    intro b hb
    refine hE.keeps b hb ?_
    rintro ⟨k, c, a, hk, _⟩
    rw [hp0_get] at hk; cases hk
  exact ⟨_, H, ⟨rfl, rfl⟩, φ, x, rfl, flat2_rel hv hx φ, hw.grows hE.size hno, ⟨fun _ _ => rfl, Nat.le_refl _, hE.size, fun b hb _ => hno b hb, fun _ _ _ => rfl, fun _ _ h => h, hE.os, hE.tape, hE.output⟩⟩
/-- what is reckoned without memory -/
theorem FnOk.of_ev1 {X : Orc} (hX : GoodX P X) {n : Nat} {f : FuncId} {args : List AV} {v : AV} (ha : args.all AV.flat1 = true) (hv : v.flat2 = true) (h : isR (evFn P X n f args hp0) v = true) : FnOk P f args H fun r G => r = v ∧ G = H :=
  FnOk.lift1 ha hv ((FnOk.of_evV hX h).mono fun _ _ h => h.1)
end Go.Ev
