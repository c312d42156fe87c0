/- part. -/
import Derived.Test.YtglpihajimhekaaGreatDoorZ15
import Derived.Test.YtglpihajimhekaaGreatDoorProg
import Derived.Test.YtglpihajimhekaaGreatDoorRows
import Derived.Test.YtglpihajimhekaaGreatDoorTie
import Derived.KernelRfl
import Derived.ChangeSame
import Derived.ChangeVars
import Derived.RowKit
import Derived.LaidLaws
import Derived.LaidHandle
import Derived.SevenTiedAt
import Derived.JoinedOf
set_option linter.all false
set_option maxRecDepth 100000
namespace Go.Proofs.YtglpihajimhekaaGreatDoor
open Go Go.Ev Go.ChangeShapes Go.WideShapes Go.ChangeAt Go.RowKit
theorem Tryz.own : ownKnob Tryz.prog.godebug = none := by kernel_rfl
theorem Tryz.laidOut : laidOutB Tryz.prog = true := by kernel_rfl
theorem Tryz.et : Tryz.prog.globalNamed "errors.errorType" = some 0 := by kernel_rfl
theorem Tryz.rt : (Tryz.prog.cutTypes.find? (·.1 == "internal/reflectlite.rtype")).map (·.2) = some 251 := by kernel_rfl
theorem Tryz.size : Tryz.prog.types.size = 392 := by kernel_rfl
theorem Tryz.oneRow : ((List.range 392).filter fun t => Tryz.prog.rowNamed t [101, 114, 114, 111, 114]) = [68] := by kernel_rfl
def laid0 : List (String × DataW Unit) := [("errors.errorType", Rows.laid_errors_errorType)]
theorem handle_of_laid {W : World} (h : laidMetH Tryz.prog laid0 W) : W.cell? ⟨0, 0, none⟩ = some (.iface 251 (.agg #[.pointer (some ⟨2, 68, none⟩)])) := by
 have h' : laidMet Tryz.prog [] W ∧ handlesMet Tryz.prog laid0 W := h
 obtain ⟨name, u, ty, e1, e2, e3, e4, e5⟩ := h'.2 _ (List.mem_singleton.2 rfl)
 have en : name = [101, 114, 114, 111, 114] := (Option.some.inj e1).symm
 subst en
 obtain rfl := Option.some.inj (Tryz.rt.symm.trans e2)
 have hm : ty ∈ (List.range 392).filter fun t => Tryz.prog.rowNamed t [101, 114, 114, 111, 114] := List.mem_filter.2 ⟨List.mem_range.2 (by rw [← Tryz.size]; exact e3), e4⟩
 rw [Tryz.oneRow] at hm
 obtain rfl := List.mem_singleton.1 hm
 have hh : typeHandle Tryz.prog 68 = .pointer (some ⟨2, 68, none⟩) := by kernel_rfl
 rw [hh] at e5
 simpa using World.var?_cell Tryz.et e5 0
theorem rom_of_laid {W : World} (h : laidMetH Tryz.prog laid0 W) : ∀ g v, (g, v) ∈ romOf → W.cell? ⟨g, 0, none⟩ = some v := by
 intro g v hm
 have hm : (g, v) ∈ [(0, Value.iface 251 (.agg #[.pointer (some ⟨2, 68, none⟩)]))] := hm
 cases List.mem_singleton.1 hm
 exact handle_of_laid h
noncomputable def laidWorld (os : Os) : World :=
 let w0 := World.holding Tryz.prog os ⟨#[], #[], []⟩
 { w0 with heap := w0.heap.modify 0 fun
   | .cells _ t frozen => .cells #[.iface 251 (.agg #[.pointer (some ⟨2, 68, none⟩)])] t frozen
   | o => o }
theorem laidWorld_met (os : Os) (args : Array Value) : laidMetH Tryz.prog laid0 ((laidWorld os).forCall (fun _ _ => 0) ⟨#[], args, []⟩).memory :=
 laidMetH_of_parts (laidMet_nil _ _) (by kernel_rfl)
end Go.Proofs.YtglpihajimhekaaGreatDoor
namespace Go.Ev
@[go_sem] theorem convR_int (k : IntKind) (x : X) (T : Tr AV) (H : Heap) : convR (.int k) x T H = withX T x .fail fun v => asIntC v .fail fun _ n => wrapC k n fun n => .val (.int k n) H := rfl
@[go_sem] theorem convR_b2s (x : X) (T : Tr AV) (H : Heap) : convR .b2s x T H = withX T x .fail fun v => asSliceC v .fail (.val (.str []) H) fun k off len _ _ _ => loadC H k off len .fail fun l => bytesC l .fail fun ns => .val (.str ns) H := rfl
end Go.Ev
namespace Go.Ev
variable {P : Program} {H : Heap}
theorem outV_ren' (ρ : K → K) (k : K) (e n : Nat) : AV.ren ρ (outV k e n) = outV (ρ k) e n := by
 cases n with
 | zero => show AV.ren ρ .nils = .nils; rw [AV.ren]
 | succ n => show AV.ren ρ (.slice k 0 (n + 1) e false (n + 1)) = .slice (ρ k) 0 (n + 1) e false (n + 1); rw [AV.ren]
theorem outB_ren' (ρ : K → K) {e : Nat} {xs : List (List AV)} (h : xs.map (AV.rens ρ) = xs) : Blk.ren ρ (outB e xs) = outB e xs := by
 cases xs with
 | nil => rfl
 | cons x xs => show Blk.row true e ((x :: xs).map (AV.rens ρ)) = Blk.row true e (x :: xs); rw [h]
theorem outB_pos {e : Nat} {xs : List (List AV)} (h : 0 < xs.length) : outB e xs = .row true e xs := by
 cases xs with
 | nil => exact absurd h (by decide)
 | cons x xs => rfl
@[go_sem] theorem len_out (k : K) (e n : Nat) (G : Heap) : asSliceC (outV k e n) R1.fail (R1.val (AV.int IntKind.i64 0) G) (fun _ _ len _ _ _ => R1.val (AV.int IntKind.i64 (len : Int)) G) = R1.val (.int .i64 n) G := by
 cases n with
 | zero => rfl
 | succ n => rfl
theorem Arr.len {v : AV} {esz : Nat} {xs : List (List AV)} (h : Arr H esz v xs) (G : Heap) : asSliceC v R1.fail (R1.val (AV.int IntKind.i64 0) G) (fun _ _ len _ _ _ => R1.val (AV.int IntKind.i64 (len : Int)) G) = R1.val (.int .i64 xs.length) G := by
 rcases h.forms with ⟨rfl, rfl⟩ | ⟨k, off, ex, cap, rfl, _⟩ <;> rfl
theorem Arr.at {v : AV} {esz : Nat} {xs : List (List AV)} (hok : H.ok) (h : Arr H esz v xs) {j : Nat} (hj : j < xs.length) : ∃ k r ex cap wr rows, v = .slice k (r * esz) xs.length esz ex cap ∧ (∀ top σ, rho H top σ k = k) ∧ (∀ L, (H.ext L).get k = some (.row wr esz rows)) ∧ rows[r + j]? = some xs[j] := by
 obtain ⟨k, r, ex, cap, wr, rows, e, hk, hg, _, hat⟩ := h.pick hj
 exact ⟨k, r, ex, cap, wr, rows, e, fun _ _ => rho_old hk, Heap.get_ext_old hok hg, by rw [hat j hj, List.getElem?_eq_getElem hj]⟩
theorem bytesC_one {β : Type} {m : Nat} (h : m ≤ 255) (f : β) (c : List Nat → β) : bytesC [.int .u8 (m : Int)] f c = c [m] := by
 show bif' (Nat.beq (kn .u8) 4) (bif' (Nat.ble m 255) (c [m]) f) f = c [m]
 rw [show Nat.beq (kn .u8) 4 = true from rfl, bif_true, show Nat.ble m 255 = true by rw [Nat.ble_eq]; exact h, bif_true]
theorem wrap_u8 {m : Nat} (h : m ≤ 255) : IntKind.u8.wrap (m : Int) = m := wrap_nat .u8 m h
theorem appR_out {L : List Blk} {i j n esz bytes : Nat} {xs : List (List AV)} {y : List AV} {x z : X} {T : Tr AV} {wr ex : Bool} {cap : Nat} (hx : evX T x = some (outV (H.key i) esz n)) (hz : evX T z = some (.slice (H.key j) 0 1 esz ex cap))
  (hi : L[i]? = some (outB esz xs)) (hn : xs.length = n) (hj : L[j]? = some (.row wr esz [y])) (hb : okBig (n + 1) bytes = true) :
  appR esz bytes x z T (H.ext L) = .val (outV (H.key L.length) esz (n + 1)) (H.ext (L.set i .dead ++ [outB esz (xs ++ [y])])) := by
 have hxw : ∀ {f : R1} {c : AV → R1}, withX T x f c = c (outV (H.key i) esz n) := by intro f c; unfold withX; rw [hx]
 have hzw : ∀ {f : R1} {c : AV → R1}, withX T z f c = c (.slice (H.key j) 0 1 esz ex cap) := by intro f c; unfold withX; rw [hz]
 have hil := (List.getElem?_eq_some_iff.1 hi).1
 have hjl := (List.getElem?_eq_some_iff.1 hj).1
 have hb1 : (2 * (n + 1) + 192) * bytes ≤ 281474976710656 := by unfold okBig at hb; rwa [Nat.ble_eq] at hb
 unfold appR
 rw [hxw, hzw]
 cases xs with
 | nil =>
  obtain rfl : n = 0 := hn.symm
  have hset : L.set i .dead = L := by
   refine List.ext_getElem? fun m => ?_
   rw [List.getElem?_set]
   split
   ·rename_i hm; subst hm; rw [hi]; first | rfl | (rw [if_pos hil]; rfl)
   ·rfl
  simp only [go_sem, Heap.get_ext_key _ _ _ hjl, hj, List.drop_zero, List.take_succ_cons, List.take_zero, List.length_cons, List.length_nil, Nat.zero_mod, Nat.zero_div, Nat.reduceAdd, Nat.reduceSub, Nat.reduceMul, Nat.reduceDiv, Nat.reduceMod, Nat.reduceEqDiff, Nat.reduceLeDiff, Nat.reduceLT, reduceIte, hset, List.nil_append]
  rw [if_pos (by simpa using hb1)]
 | cons a xs =>
  subst hn
  rw [outV_pos (by simp)]
  simp only [go_sem, Heap.get_ext_key _ _ _ hjl, Heap.get_ext_key _ _ _ hil, hi, hj, List.drop_zero, List.take_succ_cons, List.take_zero, List.length_cons, List.length_nil, Nat.zero_mod, Nat.zero_div, Nat.reduceAdd, Nat.reduceSub, Nat.reduceMul, Nat.reduceDiv, Nat.reduceMod, Nat.reduceEqDiff, Nat.reduceLeDiff, Nat.reduceLT, reduceIte, List.take_length, List.cons_append]
  rw [if_pos (Nat.le_refl _), if_neg (by omega), if_pos (by simpa using hb1), Heap.setC_ext _ _ _ _ _ hil, Heap.addC_ext, List.length_set]
noncomputable def appQ (esz bytes : Nat) (a b : Option AV) (H : Heap) : R1 := match a, b with
 | some v, some w => appR esz bytes (.c v) (.c w) .lf H
 | _, _ => .fail
theorem appR_hide (esz bytes : Nat) (a b : K) (T : Tr AV) (H : Heap) : appR esz bytes (.t a) (.t b) T H = appQ esz bytes (T.get a) (T.get b) H := by
 unfold appR appQ
 simp only [withX_t, withX_c]
 cases T.get a <;> cases T.get b <;> rfl
theorem okBig_le {n bytes : Nat} (h : n ≤ 1000000000) (hb : bytes ≤ 1000) : okBig n bytes = true := by
 unfold okBig
 rw [Nat.ble_eq]
 exact Nat.le_trans (Nat.mul_le_mul (Nat.add_le_add (Nat.mul_le_mul (Nat.le_refl 2) h) (Nat.le_refl _)) hb) (by decide)
theorem RW_app {E : FuncId → List AV → Heap → RC} {N : Nat} {k : List It} {Q : Ex → Tr AV → Heap → Prop} {d : Option K} {T' : Tr AV} {G : Heap} {L : List Blk} {esz bytes i j n : Nat} (xs : List (List AV)) (y : List AV) {wr ex : Bool} {cap : Nat}
  (hi : L[i]? = some (outB esz xs)) (hn : xs.length = n) (hj : L[j]? = some (.row wr esz [y])) (hb : okBig (n + 1) bytes = true)
  (h : WW P E N H k (putD T' d (outV (H.key L.length) esz (n + 1))) (H.ext (L.set i .dead ++ [outB esz (xs ++ [y])])) Q) : RW P E N H (appQ esz bytes (some (outV (H.key i) esz n)) (some (.slice (H.key j) 0 1 esz ex cap)) (H.ext L)) d k T' G Q := by
 show RW P E N H (appR esz bytes (.c (outV (H.key i) esz n)) (.c (.slice (H.key j) 0 1 esz ex cap)) .lf (H.ext L)) d k T' G Q
 rw [appR_out rfl rfl hi hn hj hb]
 exact h
def WkB (l : List Blk) (ρ : K → K) : List Blk → List Nat → Prop
 | b :: bs, i :: σ => (b.live → l[i]? = some (b.ren ρ)) ∧ WkB l ρ bs σ
 | _, _ => True
@[go_sem] theorem WkB_nil (l : List Blk) (ρ : K → K) (σ : List Nat) : WkB l ρ [] σ = True := by cases σ <;> rfl
@[go_sem] theorem WkB_cons (l : List Blk) (ρ : K → K) (b bs i σ) : WkB l ρ (b :: bs) (i :: σ) = ((b.live → l[i]? = some (b.ren ρ)) ∧ WkB l ρ bs σ) := rfl
theorem WkB.all {l : List Blk} {ρ : K → K} : ∀ {bs : List Blk} {σ : List Nat}, WkB l ρ bs σ → ∀ p ∈ bs.zip σ, p.1.live → l[p.2]? = some (p.1.ren ρ)
 | [], _, _, p, hp => by simp at hp
 | _ :: _, [], _, p, hp => by simp at hp
 | b :: bs, i :: σ, h, p, hp => by
  rw [List.zip_cons_cons, List.mem_cons] at hp
  rcases hp with rfl | hp
  ·exact h.1
  ·exact WkB.all h.2 p hp
theorem Wk.of {H : Heap} {T : Tr AV} {l : List Blk} {ts : List (K × AV)} {l2 : List Blk} {σ : List Nat} (h1 : l2.length = σ.length) (h2 : σ.Nodup) (h3 : ∀ p ∈ ts, T.get p.1 = some (p.2.ren (rho H l.length σ))) (h4 : WkB l (rho H l.length σ) l2 σ) : Wk H T l ts l2 σ := .mk' h1 h2 h3 h4.all
end Go.Ev
namespace Go.Ev
variable {P : Program} {H : Heap}
def zV (z : Bool) (k : K) (esz n : Nat) : AV := match n with
 | 0 => if z then .nils else .slice k 0 0 esz true 0
 | n + 1 => .slice k 0 (n + 1) esz false (n + 1)
def zB (z : Bool) (esz : Nat) (xs : List (List AV)) : Blk := match xs with
 | [] => if z then .dead else .row true esz []
 | x :: xs => .row true esz (x :: xs)
theorem zV_t (k : K) (esz n : Nat) : zV true k esz n = outV k esz n := by cases n <;> rfl
theorem zB_t (esz : Nat) (xs : List (List AV)) : zB true esz xs = outB esz xs := by cases xs <;> rfl
theorem zV_pos {z : Bool} {k : K} {esz n : Nat} (h : 0 < n) : zV z k esz n = .slice k 0 n esz false n := by
 cases n with
 | zero => exact absurd h (by decide)
 | succ n => rfl
theorem zB_pos {z : Bool} {esz : Nat} {xs : List (List AV)} (h : 0 < xs.length) : zB z esz xs = .row true esz xs := by
 cases xs with
 | nil => exact absurd h (by decide)
 | cons x xs => rfl
theorem zV_ren (ρ : K → K) (z : Bool) (k : K) (e n : Nat) : AV.ren ρ (zV z k e n) = zV z (ρ k) e n := by
 cases n with
 | zero => cases z <;> (show AV.ren ρ _ = _) <;> simp only [zV, AV.ren, if_true, Bool.false_eq_true, if_false]
 | succ n => show AV.ren ρ (.slice k 0 (n + 1) e false (n + 1)) = .slice (ρ k) 0 (n + 1) e false (n + 1); rw [AV.ren]
theorem zB_ren (ρ : K → K) {z : Bool} {e : Nat} {xs : List (List AV)} (h : xs.map (AV.rens ρ) = xs) : Blk.ren ρ (zB z e xs) = zB z e xs := by
 cases xs with
 | nil => cases z <;> rfl
 | cons x xs => show Blk.row true e ((x :: xs).map (AV.rens ρ)) = Blk.row true e (x :: xs); rw [h]
@[go_sem] theorem len_z (z : Bool) (k : K) (e n : Nat) (G : Heap) : asSliceC (zV z k e n) R1.fail (R1.val (AV.int IntKind.i64 0) G) (fun _ _ len _ _ _ => R1.val (AV.int IntKind.i64 (len : Int)) G) = R1.val (.int .i64 n) G := by
 cases n with
 | zero => cases z <;> rfl
 | succ n => rfl
theorem zB_arr {z : Bool} {L : List Blk} {esz i : Nat} {xs : List (List AV)} (h : L[i]? = some (zB z esz xs)) : Arr (H.ext L) esz (zV z (H.key i) esz xs.length) xs := by
 have hi := (List.getElem?_eq_some_iff.1 h).1
 cases xs with
 | nil =>
  cases z
  ·refine .inr ⟨H.key i, 0, true, 0, rfl, ?_, fun e => absurd rfl e⟩
   rw [Heap.nx_ext, Heap.toNat_key, Heap.toNat_key]; omega
  ·exact .inl ⟨rfl, rfl⟩
 | cons x xs =>
  refine .inr ⟨H.key i, 0, false, xs.length + 1, rfl, ?_, fun _ => ⟨0, true, x :: xs, by simp, ?_, by simp⟩⟩
  ·rw [Heap.nx_ext, Heap.toNat_key, Heap.toNat_key]; omega
  ·rw [Heap.get_ext_key _ _ _ hi, h]; rfl
theorem FnOk.dropZ' {f : FuncId} {args : List AV} {esz : Nat} {xs : List (List AV)} (hx : ∀ top σ, xs.map (AV.rens (rho H top σ)) = xs)
  (h : FnOk P f args H fun v G => ∃ z l i, v = zV z (H.key i) esz xs.length ∧ G = H.ext l ∧ ((zB z esz xs).live → l[i]? = some (zB z esz xs))) :
  FnOk P f args H fun v G => ∃ z, v = zV z H.nx esz xs.length ∧ G = H.ext [zB z esz xs] := by
 refine h.wk ?_
 rintro v G ⟨z, l, i, rfl, rfl, hl⟩
 refine ⟨l, [zB z esz xs], [i], zV z H.nx esz xs.length, rfl, ?_, rfl, by simp, ?_, z, rfl, rfl⟩
 ·rw [zV_ren, ← Heap.key_zero, rho_key rfl]
 ·intro p hp
  simp only [List.zip_cons_cons, List.zip_nil_left, List.mem_singleton] at hp
  subst hp
  intro hlive
  show l[i]? = some (Blk.ren _ (zB z esz xs))
  rw [zB_ren _ (hx _ _), hl hlive]
theorem FnOk.dropO' {f : FuncId} {args : List AV} {esz n : Nat} {xs : List (List AV)} (hn : xs.length = n) (hx : ∀ top σ, xs.map (AV.rens (rho H top σ)) = xs)
  (h : FnOk P f args H fun v G => ∃ l i, v = outV (H.key i) esz n ∧ G = H.ext l ∧ ((outB esz xs).live → l[i]? = some (outB esz xs))) :
  FnOk P f args H fun v G => v = outV H.nx esz n ∧ G = H.ext [outB esz xs] := by
 subst hn
 refine h.wk ?_
 rintro v G ⟨l, i, rfl, rfl, hl⟩
 refine ⟨l, [outB esz xs], [i], outV H.nx esz xs.length, rfl, ?_, rfl, by simp, ?_, rfl, rfl⟩
 ·rw [outV_ren', ← Heap.key_zero, rho_key rfl]
 ·intro p hp
  simp only [List.zip_cons_cons, List.zip_nil_left, List.mem_singleton] at hp
  subst hp
  intro hlive
  show l[i]? = some (Blk.ren _ (outB esz xs))
  rw [outB_ren' _ (hx _ _), hl hlive]
theorem clone_z' {f : FuncId} {esz bytes : Nat} {zero : List AV} (hf : CloFn P f esz bytes zero) {v : AV} {xs : List (List AV)} (hA : Arr H esz v xs) (hb : (2 * xs.length + 192) * bytes ≤ 281474976710656) (hx : ∀ top σ, xs.map (AV.rens (rho H top σ)) = xs) :
  FnOk P f [v] H fun r G => ∃ z, r = zV z H.nx esz xs.length ∧ G = H.ext [zB z esz xs] := by
 refine FnOk.dropZ' hx ?_
 rcases hA with ⟨rfl, rfl⟩ | ⟨k, off, ex, cap, rfl, hk, h⟩
 ·refine (clone_nil hf).mono ?_
  rintro v G ⟨rfl, rfl⟩
  exact ⟨true, [], 0, rfl, (Heap.ext_nil _).symm, fun h => h.elim⟩
 ·rcases Nat.eq_zero_or_pos xs.length with h0 | h0
  ·obtain rfl := List.length_eq_zero_iff.1 h0
   refine (clone_zero hf).mono ?_
   rintro v G ⟨rfl, rfl⟩
   exact ⟨false, _, 0, rfl, rfl, fun _ => rfl⟩
  ·obtain ⟨r, wr, rows, rfl, hg, hrow⟩ := h (by intro e; rw [e] at h0; simp at h0)
   have hn : r + xs.length ≤ rows.length := by
    have := congrArg List.length hrow
    rw [List.length_take, List.length_drop] at this
    omega
   have key := clone_arr hf hg hn h0 hb (ex := ex) (cap := cap)
   rw [hrow] at key
   refine key.mono ?_
   rintro v G ⟨rfl, rfl⟩
   exact ⟨true, _, 1, (zV_pos h0).symm, rfl, fun _ => by rw [zB_pos h0]; rfl⟩
theorem FnOk.dropO {f : FuncId} {args : List AV} {esz n : Nat} {xs : List (List AV)} (hn : xs.length = n) (hx : ∀ ρ, xs.map (AV.rens ρ) = xs)
  (h : FnOk P f args H fun v G => ∃ l i, v = outV (H.key i) esz n ∧ G = H.ext l ∧ ((outB esz xs).live → l[i]? = some (outB esz xs))) :
  FnOk P f args H fun v G => v = outV H.nx esz n ∧ G = H.ext [outB esz xs] := FnOk.dropO' hn (fun _ _ => hx _) h
theorem insert_z {f : FuncId} {esz bytes : Nat} {zero : List AV} (hf : InsFn P f esz bytes zero) {L : List Blk} {i j n : Nat} {z : Bool} {x : List AV} {xs : List (List AV)} {m : Nat}
  (hij : j ≠ i) (hj : L[j]? = some (.row true esz [x])) (hi : L[i]? = some (zB z esz xs)) (hn : xs.length = n) (hm : m ≤ n) (hl : n < 4294967296) (hb : (2 * (n + 1) + 192) * bytes ≤ 281474976710656) :
  FnOk P f [zV z (H.key i) esz n, .int .i64 m, .slice (H.key j) 0 1 esz true 1] (H.ext L) fun v G => ∃ b, v = outV (H.key L.length) esz (n + 1) ∧ G = H.ext (L.set i b ++ [outB esz (xs.take m ++ x :: xs.drop m)]) := by
 subst hn
 have hil := (List.getElem?_eq_some_iff.1 hi).1
 have hjl := (List.getElem?_eq_some_iff.1 hj).1
 have hgv : (H.ext L).get (H.key j) = some (.row true esz [x]) := by rw [Heap.get_ext_key _ _ _ hjl, hj]
 have hgk : (H.ext L).get (H.key i) = some (zB z esz xs) := by rw [Heap.get_ext_key _ _ _ hil, hi]
 have hset : L.set i (zB z esz xs) = L := by
  refine List.ext_getElem? fun q => ?_
  rw [List.getElem?_set]
  split
  ·rename_i hq; subst hq; rw [hi]
  ·rfl
 cases xs with
 | nil =>
  obtain rfl : m = 0 := by simpa using hm
  cases z
  ·refine (insert_zero hf hgv hgk (by simpa using hb)).mono ?_
   rintro v G ⟨rfl, rfl⟩
   rw [Heap.nx_ext, Heap.ext_append]
   exact ⟨_, rfl, by rw [hset]; rfl⟩
  ·refine (insert_nil hf hgv (by simpa using hb)).mono ?_
   rintro v G ⟨rfl, rfl⟩
   rw [Heap.nx_ext, Heap.ext_append]
   exact ⟨_, rfl, by rw [hset]; rfl⟩
 | cons y ys =>
  have hne : H.key j ≠ H.key i := fun h => hij (by
   have := congrArg K.toNat h
   rw [Heap.toNat_key, Heap.toNat_key] at this
   omega)
  refine (insert_own hf hne hgv hgk (by simp) hm hl hb).mono ?_
  rintro v G ⟨rfl, rfl⟩
  rw [Heap.nx_ext, Heap.set_ext_key _ _ _ _ hil, Heap.ext_append]
  refine ⟨.dead, rfl, ?_⟩
  congr 2
  rw [outB_pos (by simp only [List.length_append, List.length_cons, List.length_drop, List.length_take]; omega)]
@[go_sem] theorem bin_half {β : Type} (ek : EK) (pk : Option (List LK)) (lit : Bool) (a : Int) (f : β) (c : AV → β) : binV P ek pk lit .shr (.int .u64 a) (.int .u64 1) f c = c (.int .u64 (a.fdiv 2)) := bin_shr ek pk lit .u64 a f c .u64 1
@[go_sem] theorem max_int {β : Type} (k : IntKind) (a b : Int) (f : β) (c : AV → β) : mm2 true (.int k a) (.int k b) f c = c (.int k (max a b)) := by
 show bif' true (ltI a b fun z => bif' z (c (.int k b)) (c (.int k a))) (ltI b a fun z => bif' z (c (.int k b)) (c (.int k a))) = _
 rw [bif_true, ltI_eq, bif_eq]
 by_cases h : a < b
 ·rw [decide_eq_true h, if_pos rfl, Int.max_eq_right (by omega)]
 ·rw [decide_eq_false h, if_neg (by decide), Int.max_eq_left (by omega)]
theorem arr_row {L : List Blk} {esz i n : Nat} {wr ex : Bool} {cap : Nat} {xs : List (List AV)} (h : L[i]? = some (.row wr esz xs)) (hn : n = xs.length) : Arr (H.ext L) esz (.slice (H.key i) 0 n esz ex cap) xs := by
 subst hn
 have hi := (List.getElem?_eq_some_iff.1 h).1
 refine .inr ⟨H.key i, 0, ex, cap, rfl, ?_, fun _ => ⟨0, wr, xs, by simp, ?_, by simp⟩⟩
 ·rw [Heap.nx_ext, Heap.toNat_key, Heap.toNat_key]; omega
 ·rw [Heap.get_ext_key _ _ _ hi, h]
theorem arr_outV {L : List Blk} {esz i n : Nat} {xs : List (List AV)} (h : L[i]? = some (outB esz xs)) (hn : xs.length = n) : Arr (H.ext L) esz (outV (H.key i) esz n) xs := by
 subst hn
 rw [← zV_t]
 exact zB_arr (by rw [h, zB_t])
theorem arr_zV {z : Bool} {L : List Blk} {esz i n : Nat} {xs : List (List AV)} (h : L[i]? = some (zB z esz xs)) (hn : xs.length = n) : Arr (H.ext L) esz (zV z (H.key i) esz n) xs := by
 subst hn
 exact zB_arr h
@[go_sem low] theorem readC_first {β : Type} (f : β) (esz : Nat) (rows : List (List AV)) (q n : Nat) (c : List AV → β) (hp : q < esz) (hn : q + n ≤ esz) : readC f esz rows q n c = optC rows[0]? f fun row => bif' (Bool.and (Nat.beq q 0) (Nat.beq n esz)) (c row) (takeC f n (dropL q row) c) := by
 have := readC_at f esz rows 0 q n c hp hn
 rwa [Nat.zero_mul, Nat.zero_add] at this
theorem bool_t {p : Prop} [Decidable p] (h : p) : AV.bool true = .bool (decide p) := by rw [decide_eq_true h]
theorem bool_f {p : Prop} [Decidable p] (h : ¬p) : AV.bool false = .bool (decide p) := by rw [decide_eq_false h]
theorem Arr.uniq {v : AV} {esz : Nat} {xs ys : List (List AV)} (hx : Arr H esz v xs) (hy : Arr H esz v ys) (he : 0 < esz) : xs = ys := by
 rcases hx with ⟨rfl, rfl⟩ | ⟨k, off, ex, cap, rfl, _, h1⟩
 ·rcases hy with ⟨_, rfl⟩ | ⟨_, _, _, _, h, _⟩
  ·rfl
  ·cases h
 ·rcases hy with ⟨h, _⟩ | ⟨k', off', ex', cap', h, _, h2⟩
  ·cases h
  ·injection h with e1 e2 e3 e4 e5 e6
   subst e1 e2
   by_cases hn : xs = []
   ·subst hn
    exact (List.length_eq_zero_iff.1 (by rw [← e3]; rfl)).symm
   ·have hn' : ys ≠ [] := by intro h; subst h; exact hn (List.length_eq_zero_iff.1 (by rw [e3]; rfl))
    obtain ⟨r, wr, rows, e7, e8, e9⟩ := h1 hn
    obtain ⟨r', wr', rows', f7, f8, f9⟩ := h2 hn'
    rw [e8] at f8; cases f8
    have : r = r' := by
     have := e7.symm.trans f7
     exact Nat.eq_of_mul_eq_mul_right he this
    subst this
    rw [← e9, ← f9, e3]
end Go.Ev
namespace Go.Ev
variable {P : Program} {φ : Phi} {H : Heap} {w u : World}
theorem WRel.grows (hw : WRel P φ H w) (hs : w.heap.size ≤ u.heap.size) (hk : ∀ b, b < w.heap.size → u.heap[b]? = w.heap[b]?) : WRel P φ H u := by
 refine ⟨⟨hw.dom, hw.top, fun k b a hg ha => BlkRel.congr (w := w) (hk _ (hw.size k a ha)) (hw.blk k b a hg ha), hw.inj, fun k a ha => Nat.lt_of_lt_of_le (hw.size k a ha) hs⟩, fun g v hm => ?_⟩
 obtain ⟨h1, h2⟩ := hw.rom g v hm
 refine ⟨?_, h2⟩
 have hlt := cell_in h1
 unfold World.cell? at h1 ⊢
 rw [hk g hlt]; exact h1
structure Grows (w u : World) : Prop where
 size : w.heap.size ≤ u.heap.size
 old : ∀ b, b < w.heap.size → u.heap[b]? = w.heap[b]?
 os : u.os = w.os
 tape : u.tape = w.tape
 output : u.output = w.output
theorem Grows.refl (w : World) : Grows w w := ⟨Nat.le_refl _, fun _ _ => rfl, rfl, rfl, rfl⟩
theorem Grows.trans {w u v : World} (a : Grows w u) (b : Grows u v) : Grows w v := ⟨Nat.le_trans a.size b.size, fun x hx => by rw [b.old x (Nat.lt_of_lt_of_le hx a.size), a.old x hx], b.os.trans a.os, b.tape.trans a.tape, b.output.trans a.output⟩
theorem Grows.alloc (w : World) (o : Obj) : Grows w (w.alloc o) := by
 refine ⟨?_, fun b hb => ?_, rfl, rfl, rfl⟩
 ·simp
 ·show (w.heap.push o)[b]? = _
  rw [Array.getElem?_push, if_neg (by omega)]
theorem FnOk.of_calls {f : FuncId} {args : List AV} {v : AV}
  (h : ∀ φ w args', VRels P φ args args'.toList → WRel P φ H w → Calls P f args' w fun e u => (∃ v', e = .returned v' ∧ VRel P φ v v') ∧ Grows w u) : FnOk P f args H fun r G => r = v ∧ G = H := by
 intro φ w args' ha hw
 refine (h φ w args' ha hw).mono ?_
 rintro e u ⟨⟨v', rfl, hv⟩, hg⟩
 refine ⟨v, H, ⟨rfl, rfl⟩, φ, v', rfl, hv, hw.grows hg.size hg.old, ⟨fun _ _ => rfl, Nat.le_refl _, hg.size, fun b hb _ => hg.old b hb, fun _ _ _ => rfl, fun _ _ h => h, hg.os, hg.tape, hg.output⟩⟩
end Go.Ev
namespace Go.Ev
variable {P : Program} {φ ψ : Phi} {H : Heap} {w u : World} {T : Tr AV}
def AV.flat : AV → Bool
 | .bool _ | .int _ _ | .str _ | .nilp | .nils | .nilf | .nili | .nilm => true
 | _ => false
theorem flat_rel {v : AV} {x : Value} (hf : v.flat = true) (h : VRel P φ v x) (ψ : Phi) : VRel P ψ v x := by
 cases h <;> first | (cases hf; done) | skip
 ·exact .bool _
 ·exact .int _ _
 ·exact .str _ _ (by assumption)
 ·exact .nilp
 ·exact .nils
 ·exact .nilf
 ·exact .nili
 ·exact .nilm
theorem flats_rel (ψ : Phi) {l : List AV} {l' : List Value} (hf : l.all AV.flat = true) (h : VRels P φ l l') : VRels P ψ l l' := by
 induction l generalizing l' with
 | nil => cases h; exact .nil
 | cons v l ih =>
  cases h with
  | cons _ _ v' l' h hs =>
   rw [List.all_cons, Bool.and_eq_true] at hf
   exact .cons _ _ _ _ (flat_rel hf.1 h ψ) (ih hf.2 hs)
noncomputable def hp0 : Heap := .mk .z .lf
theorem hp0_get (k : K) : hp0.get k = none := Tr.get_lf k
theorem WRel.to0 (hw : WRel P φ H w) : WRel P (fun _ => none) hp0 w := by
 refine ⟨⟨fun k a h => (by cases h), fun k b h => (by rw [hp0_get] at h; cases h), fun k b a h => (by rw [hp0_get] at h; cases h), fun j k c d x y _ h => (by rw [hp0_get] at h; cases h), fun k a h => (by cases h)⟩, fun g v hm => ⟨(hw.rom g v hm).1, ?_⟩⟩
 rintro ⟨k, c, a, hk, _⟩
 rw [hp0_get] at hk; cases hk
theorem FnOk.lift0 {f : FuncId} {args : List AV} {v : AV} (ha : args.all AV.flat = true) (hv : v.flat = true) (h : FnOk P f args hp0 fun r _ => r = v) : FnOk P f args H fun r G => r = v ∧ G = H := by
 intro φ w args' hargs hw
 refine (h (fun _ => none) w args' (flats_rel _ ha hargs) hw.to0).mono ?_
 rintro e u ⟨_, G, rfl, ψ, x, rfl, hx, hwu, hE⟩
 have hno : ∀ b, b < w.heap.size → u.heap[b]? = w.heap[b]? := by
  intro b hb
  refine hE.keeps b hb ?_
  rintro ⟨k, c, a, hk, _⟩
  rw [hp0_get] at hk; cases hk
 exact ⟨_, H, ⟨rfl, rfl⟩, φ, x, rfl, flat_rel hv hx φ, hw.grows hE.size hno, ⟨fun _ _ => rfl, Nat.le_refl _, hE.size, fun b hb _ => hno b hb, fun _ _ _ => rfl, fun _ _ h => h, hE.os, hE.tape, hE.output⟩⟩
end Go.Ev
namespace Go.Ev
open Go.ChangeShapes Go.WideShapes Go.RowKit
variable {P : Program} {HH : Type} {enc : TypeId × Value → HH} {w : World} {base : Nat} {sp : Nat → Bool} {held : Bool} {n : Nat} {e : TypeId} {cs : List Value} {x : DataW HH × List MemPlace}
theorem FnOk.ro {H : Heap} {f : FuncId} {args : List AV} {v : AV} (hro : ∀ k b, H.get k = some b → ¬ b.mayWrite) (hv : v.flat = true) (h : FnOk P f args H fun r _ => r = v) : FnOk P f args H fun r G => r = v ∧ G = H := by
 intro φ w args' hargs hw
 refine (h φ w args' hargs hw).mono ?_
 rintro e u ⟨_, G, rfl, ψ, x, rfl, hx, hwu, hE⟩
 have hno : ∀ b, b < w.heap.size → u.heap[b]? = w.heap[b]? := by
  intro b hb
  refine hE.keeps b hb ?_
  rintro ⟨k, c, a, hk, hm, _⟩
  exact hro k c hk hm
 exact ⟨_, H, ⟨rfl, rfl⟩, φ, x, rfl, flat_rel hv hx φ, hw.grows hE.size hno, ⟨fun _ _ => rfl, Nat.le_refl _, hE.size, fun b hb _ => hno b hb, fun _ _ _ => rfl, fun _ _ h => h, hE.os, hE.tape, hE.output⟩⟩
theorem open_one {k : PK} (hk : k.ty P e) (h : DataW.trod enc P w base sp held n e cs = some x) : ∃ row, (∀ φ, VRels P φ row cs) ∧ cs.length = [k].length ∧ (∀ v ∈ cs, v.oneCell' = true) ∧ RowOf [k] row := by
 obtain ⟨v, av, rfl, hv, ho, hk⟩ := open_prim hk h
 refine ⟨[av], fun φ => .cons _ _ _ _ (hv φ) .nil, rfl, by simpa using ho, rfl, ?_⟩
 intro i k' v' h1 h2
 match i, h1, h2 with
 | 0, h1, h2 => cases h1; cases h2; exact hk
theorem row1 {k : PK} {row : List AV} (h : RowOf [k] row) : ∃ a, row = [a] ∧ KOf k a := by
 obtain ⟨hl, h⟩ := h
 match row, hl with
 | [a], _ => exact ⟨a, rfl, h 0 _ _ rfl rfl⟩
theorem bytes_of : ∀ {rows : List (List AV)}, (∀ r ∈ rows, RowOf [.int .u8] r) → ∃ l : List Nat, rows = (l.map fun k : Nat => [AV.int .u8 (k : Int)]) ∧ ∀ k ∈ l, k ≤ 255
 | [], _ => ⟨[], rfl, by simp⟩
 | r :: rows, h => by
  obtain ⟨a, rfl, ha⟩ := row1 (h r (by simp))
  obtain ⟨l, rfl, hl⟩ := bytes_of (rows := rows) fun x hx => h x (by simp [hx])
  cases ha
  rename_i n hn
  have hn : (decide ((0 : Int) ≤ n) && decide (n ≤ 255)) = true := hn
  rw [Bool.and_eq_true, decide_eq_true_iff, decide_eq_true_iff] at hn
  refine ⟨n.toNat :: l, ?_, ?_⟩
  ·rw [List.map_cons, Int.toNat_of_nonneg hn.1]
  ·intro k hk
   rcases List.mem_cons.1 hk with rfl | hk
   ·omega
   ·exact hl k hk
end Go.Ev
namespace Go.Ev
open Go.ChangeShapes Go.WideShapes Go.RowKit
variable {P : Program} {W : World}
theorem open_u8 {r : Reach} {b0 : Nat} {t : TypeId} {v : Value} (ht : P.underlying t = some (.int .u8)) (h : Value.okWide P W r b0 t v) : ∃ n : Nat, n ≤ 255 ∧ v = .int .u8 n := by
 obtain ⟨m, rfl⟩ := okWide_int ht h
 simp only [Value.okWide, ht, Cell.okWide, Cell.ok] at h
 have h1 : (0 : Int) ≤ m := h.2.1
 have h2 : m ≤ (255 : Int) := h.2.2
 obtain ⟨n, rfl⟩ := Int.eq_ofNat_of_zero_le h1
 exact ⟨n, by omega, rfl⟩
end Go.Ev
attribute [go_sem_proc] Nat.reduceAdd Nat.reduceSub Nat.reduceMul Nat.reduceDiv Nat.reduceMod Nat.reduceEqDiff Nat.reduceLeDiff Nat.reduceLT Int.reduceLT Int.reduceLE Int.reduceEq Int.reduceToNat reduceIte reduceCtorEq
attribute [go_sem] List.length_nil List.map_nil List.length_cons List.map_cons List.replicate_succ List.replicate_zero List.set_cons_zero List.set_cons_succ List.take_succ_cons List.take_zero List.take_nil List.length_append List.map_append List.cons_append List.nil_append List.drop_succ_cons List.drop_zero List.append_nil List.getElem?_cons_zero List.getElem?_cons_succ eq_self true_implies not_true_eq_false not_false_eq_true false_implies and_true true_and decide_true decide_false Bool.not_true Bool.not_false
namespace Go.Ev
open K
theorem K.inj : ∀ {a b : K}, a.toNat = b.toNat → a = b := by
 intro a
 induction a with
 | z => intro b h; cases b <;> simp [K.toNat] at h ⊢ <;> (have := K.toNat_pos ‹K›; omega)
 | o a ih => intro b h; cases b <;> simp [K.toNat] at h ⊢ <;> first | exact ih (by omega) | (have := K.toNat_pos a; omega) | omega
 | i a ih => intro b h; cases b <;> simp [K.toNat] at h ⊢ <;> first | exact ih (by omega) | (have := K.toNat_pos a; omega) | omega
theorem keyOf_o {n : Nat} (h : n % 2 = 1) : keyOf n = (keyOf ((n - 1) / 2)).o := by
 apply K.inj; rw [toNat_keyOf]; show _ = 2 * (keyOf ((n - 1) / 2)).toNat; rw [toNat_keyOf]; omega
theorem keyOf_i {n : Nat} (h : n % 2 = 0) (h0 : ¬ n = 0) : keyOf n = (keyOf (n / 2 - 1)).i := by
 apply K.inj; rw [toNat_keyOf]; show _ = 2 * (keyOf (n / 2 - 1)).toNat + 1; rw [toNat_keyOf]; omega
theorem keyOf_z : keyOf 0 = z := rfl
def CCz (P : Program) (f : Func) (n : Nat) (o : Option CC) : Prop := ∀ c, o = some c → CCok P f n c
theorem CCz.go {P : Program} {f : Func} {n : Nat} {c : CC} (h : CCz P f n (match f.body with | some code => comp P n code | none => none) → CCz P f n (some c)) : CCok P f n c := h (fun _ h => h) _ rfl
noncomputable def mkC (P : Program) (f : Func) (n : Nat) {c : CC} (h : CCok P f n c := by
 apply CCz.go
 intro h
 conv at h => arg 4; whnf
 simp only [go_sem, Array.reduceGetElem, Nat.reduceSucc, Option.map_some, Option.map_none, cloD, quietOp, allocOp, bif_true, bif_false, isK, Bool.or_true, Bool.or_false, Bool.true_or, Bool.false_or, List.map_cons, List.map_nil, UInt8.reduceToNat, List.append_eq, List.cons_append, List.nil_append] at h
 repeat (conv at h => pattern (lnOf _ _); whnf)
 repeat (conv at h => pattern (ekOf _ _); whnf)
 repeat (conv at h => pattern (plainK _ _); whnf)
 repeat (conv at h => pattern (cvOf _ _ _); whnf)
 repeat (conv at h => pattern (isArr1 _ _); whnf)
 repeat (conv at h => pattern (TypeInfo.size _); whnf)
 repeat (conv at h => pattern (TypeInfo.bytes _); whnf)
 repeat (conv at h => pattern (Field.offset _); whnf)
 simp only [go_sem, Array.reduceGetElem, Nat.reduceSucc, Option.map_some, Option.map_none, cloD, quietOp, allocOp, bif_true, bif_false, isK, Bool.or_true, Bool.or_false, Bool.true_or, Bool.false_or, List.map_cons, List.map_nil, UInt8.reduceToNat, List.append_eq, List.cons_append, List.nil_append, keyOf_z, keyOf_o, keyOf_i, Nat.reduceMod, Nat.reduceDiv, Nat.reduceSub, Nat.reduceEqDiff, not_false_eq_true] at h
 exact h) : CC := c
@[go_sem] theorem mkC_eq {P : Program} {f : Func} {n : Nat} {c : CC} (h : CCok P f n c) : mkC P f n h = c := rfl
theorem mkC_ok {P : Program} {f : Func} {n : Nat} {c : CC} (h : CCok P f n c) : CCok P f n (mkC P f n h) := h
end Go.Ev
namespace Go.Proofs
open Go Go.Ev K
@[go_sem] theorem pk28 : plainK Tryz.prog 28 = some [LK.str, LK.str] := by kernel_rfl
@[go_sem] theorem pk173 : plainK Tryz.prog 173 = some [LK.int, LK.int] := by kernel_rfl
@[go_sem] theorem pk111 : plainK Tryz.prog 111 = some [LK.str, LK.str, LK.int, LK.bool, LK.int] := by kernel_rfl
@[go_sem] theorem pk136 : plainK Tryz.prog 136 = some [LK.str, LK.int, LK.str, LK.bool] := by kernel_rfl
@[go_sem] theorem pk39 : plainK Tryz.prog 39 = some [LK.str, LK.str, LK.bool] := by kernel_rfl
@[go_sem] theorem pk182 : plainK Tryz.prog 182 = some [LK.str, LK.str, LK.int] := by kernel_rfl
@[go_sem] theorem pk89 : plainK Tryz.prog 89 = some [LK.str, LK.int] := by kernel_rfl
end Go.Proofs
namespace Go.Proofs
open Go Go.Ev K
@[go_sem] theorem call65 (a H) : callC Tryz.prog 65 a H = .call 65 a := callC_ok (by kernel_rfl) a H
noncomputable def C57 := mkC Tryz.prog Tryz.f57 28
theorem C57ok : CCok Tryz.prog Tryz.f57 28 C57 := mkC_ok _
@[go_sem] theorem call57 (a H) : callC Tryz.prog 57 a H = .call 57 a := callC_ok (by kernel_rfl) a H
theorem R57ok : resKs Tryz.prog Tryz.f57.results.toList = some [(RK.tmp z.o.i)] := by kernel_rfl
noncomputable def C122 := mkC Tryz.prog Tryz.f122 23
theorem C122ok : CCok Tryz.prog Tryz.f122 23 C122 := mkC_ok _
@[go_sem] theorem call122 (a H) : callC Tryz.prog 122 a H = .call 122 a := callC_ok (by kernel_rfl) a H
theorem R122ok : resKs Tryz.prog Tryz.f122.results.toList = some [(RK.tmp z.i)] := by kernel_rfl
noncomputable def C124 := mkC Tryz.prog Tryz.f124 8
theorem C124ok : CCok Tryz.prog Tryz.f124 8 C124 := mkC_ok _
@[go_sem] theorem call124 (a H) : callC Tryz.prog 124 a H = .call 124 a := callC_ok (by kernel_rfl) a H
theorem R124ok : resKs Tryz.prog Tryz.f124.results.toList = some [(RK.tmp z.i)] := by kernel_rfl
noncomputable def C21 := mkC Tryz.prog Tryz.f21 53
theorem C21ok : CCok Tryz.prog Tryz.f21 53 C21 := mkC_ok _
@[go_sem] theorem call21 (a H) : callC Tryz.prog 21 a H = .call 21 a := callC_ok (by kernel_rfl) a H
theorem R21ok : resKs Tryz.prog Tryz.f21.results.toList = some [(RK.tmp z.i)] := by kernel_rfl
noncomputable def C82 := mkC Tryz.prog Tryz.f82 45
theorem C82ok : CCok Tryz.prog Tryz.f82 45 C82 := mkC_ok _
@[go_sem] theorem call82 (a H) : callC Tryz.prog 82 a H = .call 82 a := callC_ok (by kernel_rfl) a H
theorem R82ok : resKs Tryz.prog Tryz.f82.results.toList = some [(RK.cell z.o.o.i true 8), (RK.cell z.o.i.o true 4), (RK.tmp z.o.i.i)] := by kernel_rfl
noncomputable def C58 := mkC Tryz.prog Tryz.f58 23
theorem C58ok : CCok Tryz.prog Tryz.f58 23 C58 := mkC_ok _
@[go_sem] theorem call58 (a H) : callC Tryz.prog 58 a H = .call 58 a := callC_ok (by kernel_rfl) a H
theorem R58ok : resKs Tryz.prog Tryz.f58.results.toList = some [(RK.tmp z.i)] := by kernel_rfl
noncomputable def C127 := mkC Tryz.prog Tryz.f127 10
theorem C127ok : CCok Tryz.prog Tryz.f127 10 C127 := mkC_ok _
@[go_sem] theorem call127 (a H) : callC Tryz.prog 127 a H = .call 127 a := callC_ok (by kernel_rfl) a H
theorem R127ok : resKs Tryz.prog Tryz.f127.results.toList = some [(RK.tmp z.i)] := by kernel_rfl
noncomputable def C140 := mkC Tryz.prog Tryz.f140 65
theorem C140ok : CCok Tryz.prog Tryz.f140 65 C140 := mkC_ok _
@[go_sem] theorem call140 (a H) : callC Tryz.prog 140 a H = .call 140 a := callC_ok (by kernel_rfl) a H
theorem R140ok : resKs Tryz.prog Tryz.f140.results.toList = some [(RK.tmp z.i)] := by kernel_rfl
noncomputable def C134 := mkC Tryz.prog Tryz.f134 47
theorem C134ok : CCok Tryz.prog Tryz.f134 47 C134 := mkC_ok _
@[go_sem] theorem call134 (a H) : callC Tryz.prog 134 a H = .call 134 a := callC_ok (by kernel_rfl) a H
theorem R134ok : resKs Tryz.prog Tryz.f134.results.toList = some [(RK.tmp z.i)] := by kernel_rfl
@[go_sem] theorem call114 (a H) : callC Tryz.prog 114 a H = .call 114 a := callC_ok (by kernel_rfl) a H
@[go_sem] theorem call115 (a H) : callC Tryz.prog 115 a H = .call 115 a := callC_ok (by kernel_rfl) a H
@[go_sem] theorem call116 (a H) : callC Tryz.prog 116 a H = .call 116 a := callC_ok (by kernel_rfl) a H
@[go_sem] theorem call117 (a H) : callC Tryz.prog 117 a H = .call 117 a := callC_ok (by kernel_rfl) a H
noncomputable def C56 := mkC Tryz.prog Tryz.f56 10
theorem C56ok : CCok Tryz.prog Tryz.f56 10 C56 := mkC_ok _
@[go_sem] theorem call56 (a H) : callC Tryz.prog 56 a H = .call 56 a := callC_ok (by kernel_rfl) a H
theorem R56ok : resKs Tryz.prog Tryz.f56.results.toList = some [(RK.tmp z.o.o)] := by kernel_rfl
noncomputable def C59 := mkC Tryz.prog Tryz.f59 9
theorem C59ok : CCok Tryz.prog Tryz.f59 9 C59 := mkC_ok _
@[go_sem] theorem call59 (a H) : callC Tryz.prog 59 a H = .call 59 a := callC_ok (by kernel_rfl) a H
theorem R59ok : resKs Tryz.prog Tryz.f59.results.toList = some [(RK.tmp z.o.i)] := by kernel_rfl
noncomputable def C60 := mkC Tryz.prog Tryz.f60 37
theorem C60ok : CCok Tryz.prog Tryz.f60 37 C60 := mkC_ok _
@[go_sem] theorem call60 (a H) : callC Tryz.prog 60 a H = .call 60 a := callC_ok (by kernel_rfl) a H
theorem R60ok : resKs Tryz.prog Tryz.f60.results.toList = some [(RK.tmp z.o.i)] := by kernel_rfl
noncomputable def C61 := mkC Tryz.prog Tryz.f61 51
theorem C61ok : CCok Tryz.prog Tryz.f61 51 C61 := mkC_ok _
@[go_sem] theorem call61 (a H) : callC Tryz.prog 61 a H = .call 61 a := callC_ok (by kernel_rfl) a H
theorem R61ok : resKs Tryz.prog Tryz.f61.results.toList = some [(RK.tmp z.i)] := by kernel_rfl
noncomputable def C147 := mkC Tryz.prog Tryz.f147 43
theorem C147ok : CCok Tryz.prog Tryz.f147 43 C147 := mkC_ok _
@[go_sem] theorem call147 (a H) : callC Tryz.prog 147 a H = .call 147 a := callC_ok (by kernel_rfl) a H
theorem R147ok : resKs Tryz.prog Tryz.f147.results.toList = some [(RK.cell z.i.i true 4), (RK.tmp z.o.o.o)] := by kernel_rfl
noncomputable def C148 := mkC Tryz.prog Tryz.f148 61
theorem C148ok : CCok Tryz.prog Tryz.f148 61 C148 := mkC_ok _
@[go_sem] theorem call148 (a H) : callC Tryz.prog 148 a H = .call 148 a := callC_ok (by kernel_rfl) a H
theorem R148ok : resKs Tryz.prog Tryz.f148.results.toList = some [(RK.cell z.o.i true 8), (RK.cell z.i.o true 4)] := by kernel_rfl
noncomputable def C83 := mkC Tryz.prog Tryz.f83 11
theorem C83ok : CCok Tryz.prog Tryz.f83 11 C83 := mkC_ok _
@[go_sem] theorem call83 (a H) : callC Tryz.prog 83 a H = .call 83 a := callC_ok (by kernel_rfl) a H
theorem R83ok : resKs Tryz.prog Tryz.f83.results.toList = some [(RK.tmp z.i)] := by kernel_rfl
noncomputable def C149 := mkC Tryz.prog Tryz.f149 57
theorem C149ok : CCok Tryz.prog Tryz.f149 57 C149 := mkC_ok _
@[go_sem] theorem call149 (a H) : callC Tryz.prog 149 a H = .call 149 a := callC_ok (by kernel_rfl) a H
theorem R149ok : resKs Tryz.prog Tryz.f149.results.toList = some [(RK.tmp z.o.i)] := by kernel_rfl
noncomputable def C191 := mkC Tryz.prog Tryz.f191 50
theorem C191ok : CCok Tryz.prog Tryz.f191 50 C191 := mkC_ok _
@[go_sem] theorem call191 (a H) : callC Tryz.prog 191 a H = .call 191 a := callC_ok (by kernel_rfl) a H
theorem R191ok : resKs Tryz.prog Tryz.f191.results.toList = some [(RK.tmp z.i)] := by kernel_rfl
noncomputable def C189 := mkC Tryz.prog Tryz.f189 40
theorem C189ok : CCok Tryz.prog Tryz.f189 40 C189 := mkC_ok _
@[go_sem] theorem call189 (a H) : callC Tryz.prog 189 a H = .call 189 a := callC_ok (by kernel_rfl) a H
theorem R189ok : resKs Tryz.prog Tryz.f189.results.toList = some [(RK.tmp z.i)] := by kernel_rfl
noncomputable def C128 := mkC Tryz.prog Tryz.f128 19
theorem C128ok : CCok Tryz.prog Tryz.f128 19 C128 := mkC_ok _
@[go_sem] theorem call128 (a H) : callC Tryz.prog 128 a H = .call 128 a := callC_ok (by kernel_rfl) a H
theorem R128ok : resKs Tryz.prog Tryz.f128.results.toList = some [(RK.tmp z.o.i)] := by kernel_rfl
noncomputable def C129 := mkC Tryz.prog Tryz.f129 31
theorem C129ok : CCok Tryz.prog Tryz.f129 31 C129 := mkC_ok _
@[go_sem] theorem call129 (a H) : callC Tryz.prog 129 a H = .call 129 a := callC_ok (by kernel_rfl) a H
theorem R129ok : resKs Tryz.prog Tryz.f129.results.toList = some [(RK.tmp z.i)] := by kernel_rfl
noncomputable def C130 := mkC Tryz.prog Tryz.f130 22
theorem C130ok : CCok Tryz.prog Tryz.f130 22 C130 := mkC_ok _
@[go_sem] theorem call130 (a H) : callC Tryz.prog 130 a H = .call 130 a := callC_ok (by kernel_rfl) a H
theorem R130ok : resKs Tryz.prog Tryz.f130.results.toList = some [(RK.cell z.o.i true 5), (RK.tmp z.i.o)] := by kernel_rfl
noncomputable def C131 := mkC Tryz.prog Tryz.f131 12
theorem C131ok : CCok Tryz.prog Tryz.f131 12 C131 := mkC_ok _
@[go_sem] theorem call131 (a H) : callC Tryz.prog 131 a H = .call 131 a := callC_ok (by kernel_rfl) a H
theorem R131ok : resKs Tryz.prog Tryz.f131.results.toList = some [(RK.tmp z.i)] := by kernel_rfl
noncomputable def C132 := mkC Tryz.prog Tryz.f132 8
theorem C132ok : CCok Tryz.prog Tryz.f132 8 C132 := mkC_ok _
@[go_sem] theorem call132 (a H) : callC Tryz.prog 132 a H = .call 132 a := callC_ok (by kernel_rfl) a H
theorem R132ok : resKs Tryz.prog Tryz.f132.results.toList = some [(RK.tmp z.o.o)] := by kernel_rfl
noncomputable def C133 := mkC Tryz.prog Tryz.f133 54
theorem C133ok : CCok Tryz.prog Tryz.f133 54 C133 := mkC_ok _
@[go_sem] theorem call133 (a H) : callC Tryz.prog 133 a H = .call 133 a := callC_ok (by kernel_rfl) a H
theorem R133ok : resKs Tryz.prog Tryz.f133.results.toList = some [(RK.tmp z.o.i)] := by kernel_rfl
noncomputable def C196 := mkC Tryz.prog Tryz.f196 28
theorem C196ok : CCok Tryz.prog Tryz.f196 28 C196 := mkC_ok _
@[go_sem] theorem call196 (a H) : callC Tryz.prog 196 a H = .call 196 a := callC_ok (by kernel_rfl) a H
theorem R196ok : resKs Tryz.prog Tryz.f196.results.toList = some [(RK.cell z.o.o.i true 8), (RK.cell z.o.i.o true 4)] := by kernel_rfl
noncomputable def C199 := mkC Tryz.prog Tryz.f199 59
theorem C199ok : CCok Tryz.prog Tryz.f199 59 C199 := mkC_ok _
@[go_sem] theorem call199 (a H) : callC Tryz.prog 199 a H = .call 199 a := callC_ok (by kernel_rfl) a H
theorem R199ok : resKs Tryz.prog Tryz.f199.results.toList = some [(RK.cell z.o.i true 8), (RK.cell z.i.o true 4)] := by kernel_rfl
end Go.Proofs
namespace Go.Proofs
open Go Go.Ev K
@[go_sem] theorem call201 (a H) : callC Tryz.prog 201 a H = .call 201 a := callC_ok (by kernel_rfl) a H
noncomputable def C240 := mkC Tryz.prog Tryz.f240 61
theorem C240ok : CCok Tryz.prog Tryz.f240 61 C240 := mkC_ok _
@[go_sem] theorem call240 (a H) : callC Tryz.prog 240 a H = .call 240 a := callC_ok (by kernel_rfl) a H
theorem R240ok : resKs Tryz.prog Tryz.f240.results.toList = some [(RK.tmp z.i.i), (RK.tmp z.o.o.o)] := by kernel_rfl
noncomputable def C232 := mkC Tryz.prog Tryz.f232 23
theorem C232ok : CCok Tryz.prog Tryz.f232 23 C232 := mkC_ok _
@[go_sem] theorem call232 (a H) : callC Tryz.prog 232 a H = .call 232 a := callC_ok (by kernel_rfl) a H
theorem R232ok : resKs Tryz.prog Tryz.f232.results.toList = some [(RK.tmp z.i)] := by kernel_rfl
noncomputable def C233 := mkC Tryz.prog Tryz.f233 9
theorem C233ok : CCok Tryz.prog Tryz.f233 9 C233 := mkC_ok _
@[go_sem] theorem call233 (a H) : callC Tryz.prog 233 a H = .call 233 a := callC_ok (by kernel_rfl) a H
theorem R233ok : resKs Tryz.prog Tryz.f233.results.toList = some [(RK.tmp z.o.i)] := by kernel_rfl
noncomputable def C187 := mkC Tryz.prog Tryz.f187 24
theorem C187ok : CCok Tryz.prog Tryz.f187 24 C187 := mkC_ok _
@[go_sem] theorem call187 (a H) : callC Tryz.prog 187 a H = .call 187 a := callC_ok (by kernel_rfl) a H
theorem R187ok : resKs Tryz.prog Tryz.f187.results.toList = some [(RK.tmp z.i)] := by kernel_rfl
noncomputable def C188 := mkC Tryz.prog Tryz.f188 31
theorem C188ok : CCok Tryz.prog Tryz.f188 31 C188 := mkC_ok _
@[go_sem] theorem call188 (a H) : callC Tryz.prog 188 a H = .call 188 a := callC_ok (by kernel_rfl) a H
theorem R188ok : resKs Tryz.prog Tryz.f188.results.toList = some [(RK.tmp z.o.o.i)] := by kernel_rfl
noncomputable def C235 := mkC Tryz.prog Tryz.f235 57
theorem C235ok : CCok Tryz.prog Tryz.f235 57 C235 := mkC_ok _
@[go_sem] theorem call235 (a H) : callC Tryz.prog 235 a H = .call 235 a := callC_ok (by kernel_rfl) a H
theorem R235ok : resKs Tryz.prog Tryz.f235.results.toList = some [(RK.cell z.o.o.i true 8), (RK.cell z.o.i.o true 5), (RK.tmp z.o.i.i)] := by kernel_rfl
@[go_sem] theorem call236 (a H) : callC Tryz.prog 236 a H = .call 236 a := callC_ok (by kernel_rfl) a H
noncomputable def C238 := mkC Tryz.prog Tryz.f238 9
theorem C238ok : CCok Tryz.prog Tryz.f238 9 C238 := mkC_ok _
@[go_sem] theorem call238 (a H) : callC Tryz.prog 238 a H = .call 238 a := callC_ok (by kernel_rfl) a H
theorem R238ok : resKs Tryz.prog Tryz.f238.results.toList = some [(RK.tmp z.o.i)] := by kernel_rfl
noncomputable def C239 := mkC Tryz.prog Tryz.f239 10
theorem C239ok : CCok Tryz.prog Tryz.f239 10 C239 := mkC_ok _
@[go_sem] theorem call239 (a H) : callC Tryz.prog 239 a H = .call 239 a := callC_ok (by kernel_rfl) a H
theorem R239ok : resKs Tryz.prog Tryz.f239.results.toList = some [(RK.tmp z.o.o)] := by kernel_rfl
noncomputable def C275 := mkC Tryz.prog Tryz.f275 19
theorem C275ok : CCok Tryz.prog Tryz.f275 19 C275 := mkC_ok _
@[go_sem] theorem call275 (a H) : callC Tryz.prog 275 a H = .call 275 a := callC_ok (by kernel_rfl) a H
theorem R275ok : resKs Tryz.prog Tryz.f275.results.toList = some [(RK.tmp z.o.i)] := by kernel_rfl
noncomputable def C276 := mkC Tryz.prog Tryz.f276 19
theorem C276ok : CCok Tryz.prog Tryz.f276 19 C276 := mkC_ok _
@[go_sem] theorem call276 (a H) : callC Tryz.prog 276 a H = .call 276 a := callC_ok (by kernel_rfl) a H
theorem R276ok : resKs Tryz.prog Tryz.f276.results.toList = some [(RK.cell z.o.i true 5), (RK.cell z.i.o true 4), (RK.tmp z.i.i)] := by kernel_rfl
noncomputable def C278 := mkC Tryz.prog Tryz.f278 20
theorem C278ok : CCok Tryz.prog Tryz.f278 20 C278 := mkC_ok _
@[go_sem] theorem call278 (a H) : callC Tryz.prog 278 a H = .call 278 a := callC_ok (by kernel_rfl) a H
theorem R278ok : resKs Tryz.prog Tryz.f278.results.toList = some [(RK.tmp z.o.o.i), (RK.tmp z.o.i.o)] := by kernel_rfl
noncomputable def C279 := mkC Tryz.prog Tryz.f279 53
theorem C279ok : CCok Tryz.prog Tryz.f279 53 C279 := mkC_ok _
@[go_sem] theorem call279 (a H) : callC Tryz.prog 279 a H = .call 279 a := callC_ok (by kernel_rfl) a H
theorem R279ok : resKs Tryz.prog Tryz.f279.results.toList = some [(RK.tmp z.o.i)] := by kernel_rfl
noncomputable def C280 := mkC Tryz.prog Tryz.f280 19
theorem C280ok : CCok Tryz.prog Tryz.f280 19 C280 := mkC_ok _
@[go_sem] theorem call280 (a H) : callC Tryz.prog 280 a H = .call 280 a := callC_ok (by kernel_rfl) a H
theorem R280ok : resKs Tryz.prog Tryz.f280.results.toList = some [(RK.tmp z.o.i)] := by kernel_rfl
noncomputable def C295 := mkC Tryz.prog Tryz.f295 31
theorem C295ok : CCok Tryz.prog Tryz.f295 31 C295 := mkC_ok _
@[go_sem] theorem call295 (a H) : callC Tryz.prog 295 a H = .call 295 a := callC_ok (by kernel_rfl) a H
theorem R295ok : resKs Tryz.prog Tryz.f295.results.toList = some [(RK.cell z.i.i true 5), (RK.cell z.o.o.o true 4), (RK.tmp z.o.o.i)] := by kernel_rfl
@[go_sem] theorem call296 (a H) : callC Tryz.prog 296 a H = .call 296 a := callC_ok (by kernel_rfl) a H
end Go.Proofs
namespace Go.Proofs
open Go Go.Ev
variable {H : Heap}
theorem bool_t {p : Prop} [Decidable p] (h : p) : AV.bool true = .bool (decide p) := by rw [decide_eq_true h]
theorem bool_f {p : Prop} [Decidable p] (h : ¬p) : AV.bool false = .bool (decide p) := by rw [decide_eq_false h]
def isKey (k : List Nat) : Prop := ¬ k = [] ∧ (k.length : Int) ≤ 8
instance (k : List Nat) : Decidable (isKey k) := inferInstanceAs (Decidable (_ ∧ _))
theorem f127_ok (k : List Nat) : FnOk Tryz.prog 127 [.str k] H fun v G => v = .bool (decide (isKey k)) ∧ G = H := by
 refine FnOk.of_WW Tryz.func127 rfl C127ok R127ok E0 good_E0 ?_
 simp only [go_sem, C127]
 repeat' (first | apply And.intro | intro _)
 all_goals first | exact Heap.ext_nil H | simp_all [isKey]
def isSpan (f t : List Nat) : Prop := (f.length : Int) ≤ 8 ∧ (t.length : Int) ≤ 8 ∧ (t = [] ∨ ltS f t)
noncomputable instance (f t : List Nat) : Decidable (isSpan f t) := inferInstanceAs (Decidable (_ ∧ _))
theorem f58_ok (f t : List Nat) : FnOk Tryz.prog 58 [.agg [.str f, .str t]] H fun v G => v = .bool (decide (isSpan f t)) ∧ G = H := by
 refine FnOk.drop (R := fun v => v = .bool (decide (isSpan f t))) ?_ (by rintro v rfl ρ; rw [AV.ren])
 refine FnOk.of_WW Tryz.func58 rfl C58ok R58ok E0 good_E0 ?_
 simp only [go_sem, C58, not_leS]
 repeat' (first | apply And.intro | intro _)
 all_goals first | exact ⟨_, rfl⟩ | exact bool_t (by unfold isSpan; grind) | exact bool_f (by unfold isSpan; grind)
def mayBe (k v : List Nat) (n : Int) (d : Bool) : Prop := isKey k ∧ (v.length : Int) ≤ 12 ∧ (d = true → v = []) ∧ 1 ≤ n ∧ n ≤ 1000000000000
instance (k v : List Nat) (n : Int) (d : Bool) : Decidable (mayBe k v n d) := inferInstanceAs (Decidable (_ ∧ _))
theorem f188_ok (f t : List Nat) (v : Int) (d : Bool) : FnOk Tryz.prog 188 [.str f, .str t, .int .i64 v, .bool d] H fun r G => r = .bool (decide (mayBe f t v d)) ∧ G = H := by
 refine FnOk.of_WW Tryz.func188 rfl C188ok R188ok E0 good_E0 ?_
 cases d
 all_goals simp only [go_sem, C188]
 all_goals refine CL.bool (f127_ok _) (fun h1 => ?_) (fun h1 => ?_)
 all_goals simp only [go_sem]
 all_goals repeat' (first | apply And.intro | intro _)
 all_goals first | exact Heap.ext_nil H | exact bool_t (by unfold mayBe; grind) | exact bool_f (by unfold mayBe; grind)
structure Cell where
 key : List Nat
 value : List Nat
 ver : Int
 del : Bool
 floor : Int
 deriving DecidableEq
def Cell.enc (c : Cell) : List AV := [.str c.key, .str c.value, .int .i64 c.ver, .bool c.del, .int .i64 c.floor]
@[go_sem] theorem Cell.rens (ρ : K → K) (c : Cell) : AV.rens ρ c.enc = c.enc := by simp only [Cell.enc, AV.rens, AV.ren]
theorem Cell.map_rens (ρ : K → K) (l : List Cell) : (l.map Cell.enc).map (AV.rens ρ) = l.map Cell.enc := by
 rw [List.map_map]; exact List.map_congr_left fun c _ => Cell.rens ρ c
def has (f t k : List Nat) : Prop := isSpan f t ∧ isKey k ∧ ¬ ltS k f ∧ (t = [] ∨ ltS k t)
noncomputable instance (f t k : List Nat) : Decidable (has f t k) := inferInstanceAs (Decidable (_ ∧ _))
theorem f57_ok (f t k : List Nat) : FnOk Tryz.prog 57 [.agg [.str f, .str t], .str k] H fun v G => v = .bool (decide (has f t k)) ∧ G = H := by
 refine FnOk.drop (R := fun v => v = .bool (decide (has f t k))) ?_ (by rintro v rfl ρ; rw [AV.ren])
 refine FnOk.of_WW Tryz.func57 rfl C57ok R57ok E0 good_E0 ?_
 simp only [go_sem, C57]
 refine CL.bool (f58_ok _ _) (fun h1 => ?_) (fun h1 => ?_)
 all_goals simp only [go_sem]
 ·refine CL.bool (f127_ok _) (fun h2 => ?_) (fun h2 => ?_)
  all_goals simp only [go_sem]
  all_goals repeat' (first | apply And.intro | intro _)
  all_goals first | exact ⟨_, rfl⟩ | exact bool_t (by unfold has; grind) | exact bool_f (by unfold has; grind)
 ·exact ⟨bool_f (by unfold has; grind), _, rfl⟩
def cellIs (c : Cell) : Prop := mayBe c.key c.value c.ver c.del ∧ 0 ≤ c.floor ∧ c.floor ≤ c.ver
instance (c : Cell) : Decidable (cellIs c) := inferInstanceAs (Decidable (_ ∧ _))
theorem f187_ok (c : Cell) : FnOk Tryz.prog 187 [.agg c.enc] H fun v G => v = .bool (decide (cellIs c)) ∧ G = H := by
 refine FnOk.drop (R := fun v => v = .bool (decide (cellIs c))) ?_ (by rintro v rfl ρ; rw [AV.ren])
 refine FnOk.of_WW Tryz.func187 rfl C187ok R187ok E0 good_E0 ?_
 simp only [go_sem, C187, Cell.enc]
 refine CL.bool (f188_ok _ _ _ _) (fun h1 => ?_) (fun h1 => ?_)
 all_goals simp only [go_sem]
 all_goals repeat' (first | apply And.intro | intro _)
 all_goals first | exact ⟨_, rfl⟩ | exact bool_t (by unfold cellIs; grind) | exact bool_f (by unfold cellIs; grind)
end Go.Proofs
namespace Go.Proofs
open Go Go.Ev
variable {H : Heap}
def getL (l : List Cell) (key : List Nat) : Cell × Bool := match l with
 | [] => (⟨key, [], 0, false, 0⟩, false)
 | c :: l => if c.key = key then (c, true) else getL l key
theorem getL_at {key : List Nat} : ∀ {l : List Cell} {i : Nat} {c : Cell}, (∀ x ∈ l.take i, x.key ≠ key) → l[i]? = some c → c.key = key → getL l key = (c, true)
 | [], i, c, _, h, _ => by simp at h
 | x :: l, 0, c, _, h, hc => by simp at h; subst h; rw [getL, if_pos hc]
 | x :: l, i + 1, c, hn, h, hc => by
  rw [getL, if_neg (hn x (by simp))]
  exact getL_at (i := i) (fun y hy => hn y (by simp [hy])) (by simpa using h) hc
theorem getL_none {key : List Nat} : ∀ {l : List Cell}, (∀ x ∈ l, x.key ≠ key) → getL l key = (⟨key, [], 0, false, 0⟩, false)
 | [], _ => rfl
 | x :: l, h => by rw [getL, if_neg (h x (by simp))]; exact getL_none fun y hy => h y (by simp [hy])
theorem take_all {α : Type} {l : List α} {i : Nat} (h : l.length ≤ i) : l.take i = l := List.take_of_length_le h
theorem take_next {α : Type} {l : List α} {i : Nat} {c : α} (h : l[i]? = some c) : l.take (i + 1) = l.take i ++ [c] := by
 rw [List.take_succ, h]; rfl
theorem f130_ok {v : AV} {l : List Cell} (hA : Arr H 5 v (l.map Cell.enc)) (hl : l.length < 4294967296) (key : List Nat) :
  FnOk Tryz.prog 130 [v, .str key] H fun r G => r = .tup [.agg (getL l key).1.enc, .bool (getL l key).2] ∧ G = H := by
 refine FnOk.assume fun hok => ?_
 refine FnOk.drop (R := fun r => r = .tup [.agg (getL l key).1.enc, .bool (getL l key).2]) ?_ (by rintro v rfl ρ; simp only [AV.ren, AV.rens, Cell.rens])
 refine FnOk.of_WW Tryz.func130 rfl C130ok R130ok E0 good_E0 ?_
 rcases hA.forms with ⟨rfl, hnil⟩ | ⟨k, off, ex, cap, rfl, hrho⟩
 ·have hn0 : l.length = 0 := by simpa using hnil
  simp only [go_sem, C130]
  refine LL.st good_E0 (fun i : Nat => l.length - i) (fun i => i ≤ l.length ∧ ∀ x ∈ l.take i, x.key ≠ key)
   (fun i => [(.o .z, .str key), (.i (.o .z), .ptr (H.key 0) 0), (.i (.o (.o .z)), .nils), (.o (.i (.o .z)), .int .i64 l.length), (.i (.i (.o .z)), .int .i64 i)])
   (fun i => [.row true 5 [[.str [], .str [], .int .i64 0, .bool false, .int .i64 0]]]) ?_ 0 (σ := [0]) (Wk.mk' rfl (by decide) (by simp only [go_sem, List.length_map, hn0]) (by simp only [go_sem, List.length_map, hn0])) ⟨by omega, by simp⟩
  rintro i ⟨hi, hno⟩
  by_cases hlt : i < l.length
  ·exact absurd hlt (by omega)
  ·have hci : ¬ (i : Int) < (l.length : Int) := by omega
   have := getL_none (l := l) (key := key) (by rw [take_all (by omega)] at hno; exact hno)
   simp only [go_sem, hci]
   rw [this]
   exact ⟨rfl, _, rfl⟩
 ·have hn0 : True := trivial
  simp only [go_sem, C130]
  refine LL.st good_E0 (fun i : Nat => l.length - i) (fun i => i ≤ l.length ∧ ∀ x ∈ l.take i, x.key ≠ key)
   (fun i => [(.o .z, .str key), (.i (.o .z), .ptr (H.key 0) 0), (.i (.o (.o .z)), .slice k off (l.map Cell.enc).length 5 ex cap), (.o (.i (.o .z)), .int .i64 l.length), (.i (.i (.o .z)), .int .i64 i)])
   (fun i => [.row true 5 [[.str [], .str [], .int .i64 0, .bool false, .int .i64 0]]]) ?_ 0 (σ := [0]) (Wk.mk' rfl (by decide) (by simp only [go_sem, List.length_map, hrho]) (by simp only [go_sem, List.length_map, hrho])) ⟨by omega, by simp⟩
  rintro i ⟨hi, hno⟩
  by_cases hlt : i < l.length
  ·obtain ⟨kk, r, ex', cap', wr, rows, hv, hk, hg, _, hat⟩ := hA.pick (j := i) (by simpa using hlt)
   have hrow := hat i (by simpa using hlt)
   have hgo := Heap.get_ext_old hok hg
   have hw := wrap_succ (n := i) (by omega)
   have hci : (i : Int) < (l.length : Int) := by omega
   have hsi : i + 1 ≤ l.length := by omega
   cases hv
   simp only [go_sem, List.length_map, hw, hgo, hrow, hci, hsi, List.getElem?_eq_getElem hlt, Cell.enc]
   have hget : l[i]? = some l[i] := List.getElem?_eq_getElem hlt
   refine ⟨fun he => ?_, fun he => ?_⟩
   ·have := getL_at hno hget he
    rw [this]
    exact ⟨rfl, _, rfl⟩
   ·refine ⟨i + 1, by show l.length - (i + 1) < l.length - i; omega, ⟨by omega, ?_⟩, _, [0], rfl, Wk.mk' rfl (by decide) (by simp only [go_sem, hrho, List.length_map]) (by simp only [go_sem, hrho, List.length_map])⟩
    rw [take_next hget]
    intro x hx
    rcases List.mem_append.1 hx with h | h
    ·exact hno x h
    ·simp only [List.mem_singleton] at h; subst h; exact he
  ·have hci : ¬ (i : Int) < (l.length : Int) := by omega
   have := getL_none (l := l) (key := key) (by rw [take_all (by omega)] at hno; exact hno)
   simp only [go_sem, hci]
   rw [this]
   exact ⟨rfl, _, rfl⟩
end Go.Proofs
namespace Go.Proofs
open Go Go.Ev
variable {H : Heap}
def few (l : List Cell) : Prop := (∀ c ∈ l, (c.key.length : Int) ≤ 20 ∧ (c.value.length : Int) ≤ 40) ∧ (l.length : Int) ≤ 30
instance (l : List Cell) : Decidable (few l) := inferInstanceAs (Decidable (_ ∧ _))
end Go.Proofs
namespace Go.Proofs
open Go Go.Ev
variable {H : Heap}
def okAt (l : List Cell) (j : Nat) : Prop := ∃ c, l[j]? = some c ∧ cellIs c ∧ (0 < j → ∃ d, l[j - 1]? = some d ∧ ltS d.key c.key)
def isIdx (l : List Cell) : Prop := ∀ j, j < l.length → okAt l j
noncomputable instance (l : List Cell) : Decidable (isIdx l) := Classical.propDecidable _
theorem f129_ok {v : AV} {l : List Cell} (hA : Arr H 5 v (l.map Cell.enc)) (hl : l.length < 4294967296) :
  FnOk Tryz.prog 129 [v] H fun r G => r = .bool (decide (isIdx l)) ∧ G = H := by
 refine FnOk.assume fun hok => ?_
 refine FnOk.drop (R := fun r => r = .bool (decide (isIdx l))) ?_ (by rintro v rfl ρ; rw [AV.ren])
 refine FnOk.of_WW Tryz.func129 rfl C129ok R129ok E0 good_E0 ?_
 rcases hA.forms with ⟨rfl, hnil⟩ | ⟨k, off, ex, cap, rfl, hrho⟩
 ·have hn0 : l.length = 0 := by simpa using hnil
  simp only [go_sem, C129]
  refine LL.st good_E0 (fun i : Nat => l.length - i) (fun i => i ≤ l.length ∧ ∀ j, j < i → okAt l j)
   (fun i => [(.z, .nils), ((.o (.i .z)), .nils), ((.i (.i .z)), .int .i64 l.length), ((.o (.o (.o .z))), .int .i64 i)])
   (fun i => []) ?_ 0 (σ := []) (Wk.mk' rfl (by decide) (by simp only [go_sem, List.length_map, hn0]) (by simp only [go_sem, List.length_map, hn0])) ⟨by omega, by simp⟩
  rintro i ⟨hi, hno⟩
  by_cases hlt : i < l.length
  ·exact absurd hlt (by omega)
  ·have hci : ¬ (i : Int) < (l.length : Int) := by omega
   simp only [go_sem, List.length_map, hci, show ¬ (i : Int) < 0 by omega]
   exact ⟨bool_t fun j hj => hno j (by omega), _, rfl⟩
 ·simp only [go_sem, C129]
  refine LL.st good_E0 (fun i : Nat => l.length - i) (fun i => i ≤ l.length ∧ ∀ j, j < i → okAt l j)
   (fun i => [(.z, .slice k off (l.map Cell.enc).length 5 ex cap), ((.o (.i .z)), .slice k off (l.map Cell.enc).length 5 ex cap), ((.i (.i .z)), .int .i64 l.length), ((.o (.o (.o .z))), .int .i64 i)])
   (fun i => []) ?_ 0 (σ := []) (Wk.mk' rfl (by decide) (by simp only [go_sem, List.length_map, hrho]) (by simp only [go_sem, List.length_map, hrho])) ⟨by omega, by simp⟩
  rintro i ⟨hi, hno⟩
  by_cases hlt : i < l.length
  ·obtain ⟨kk, r, ex', cap', wr, rows, hv, hk, hg, _, hat⟩ := hA.pick (j := i) (by simpa using hlt)
   have hrow := hat i (by simpa using hlt)
   have hgo := Heap.get_ext_old hok hg
   have hw := wrap_succ (n := i) (by omega)
   have hci : (i : Int) < (l.length : Int) := by omega
   have hsi : i + 1 ≤ l.length := by omega
   have hget : l[i]? = some l[i] := List.getElem?_eq_getElem hlt
   cases hv
   have hbad : ¬ okAt l i → ¬ isIdx l := fun h g => h (g i hlt)
   simp only [go_sem, List.length_map, hw, hgo, hrow, hci, hsi, List.getElem?_eq_getElem hlt, Cell.enc]
   refine CL.bool (f187_ok l[i]) (fun h1 => ?_) (fun h1 => ?_)
   ·rcases Nat.eq_zero_or_pos i with h0 | h0
    ·subst h0
     have hw0 : IntKind.i64.wrap (0 + 1) = ((0 + 1 : Nat) : Int) := rfl
     simp only [go_sem, List.length_map, hw, hgo, hrow, hci, hsi, List.getElem?_eq_getElem hlt, Cell.enc, Int.lt_irrefl, Int.ofNat_zero, hw0]
     refine ⟨0 + 1, by show l.length - (0 + 1) < l.length - 0; omega, ?_, _, [], rfl, Wk.mk' rfl (by decide) (by simp only [go_sem, hrho, List.length_map]) (by simp only [go_sem, hrho, List.length_map])⟩
     refine ⟨by omega, fun j hj => ?_⟩
     obtain rfl : j = 0 := by omega
     exact ⟨_, hget, h1, fun h => absurd h (by omega)⟩
    ·obtain ⟨j, rfl⟩ : ∃ j, i = j + 1 := ⟨i - 1, by omega⟩
     have hrow' := hat j (by simp only [List.length_map]; omega)
     have hp : IntKind.i64.wrap (((j + 1 : Nat) : Int) - 1) = (j : Int) := by rw [wrap_i64 (by omega) (by omega)]; omega
     have hpos : (0 : Int) < ((j + 1 : Nat) : Int) := by omega
     have hltj : (j : Int) < (l.length : Int) := by omega
     have hsj : j + 1 ≤ l.length := by omega
     have hgetj : l[j]? = some l[j] := List.getElem?_eq_getElem (by omega)
     simp only [go_sem, List.length_map, hw, hgo, hrow, hci, hsi, List.getElem?_eq_getElem hlt, Cell.enc, hrow', hp, hpos, hltj, hsj, hgetj]
     refine ⟨fun h2 => ⟨bool_f (hbad ?_), _, rfl⟩, fun h2 => ?_⟩
     ·rintro ⟨c, hc, _, hlt'⟩
      obtain ⟨d, hd, hlt'⟩ := hlt' (by omega)
      rw [hget] at hc
      rw [Nat.add_sub_cancel, hgetj] at hd
      cases hc; cases hd
      exact h2 hlt'
     ·refine ⟨(j + 1) + 1, by show l.length - ((j + 1) + 1) < l.length - (j + 1); omega, ?_, _, [], rfl, Wk.mk' rfl (by decide) (by simp only [go_sem, hrho, List.length_map]) (by simp only [go_sem, hrho, List.length_map])⟩
      refine ⟨by omega, fun x hx => ?_⟩
      rcases Nat.lt_or_ge x (j + 1) with g | g
      ·exact hno x g
      ·obtain rfl : x = j + 1 := by omega
       exact ⟨_, hget, h1, fun _ => ⟨_, hgetj, Classical.not_not.1 h2⟩⟩
   ·simp only [go_sem, List.length_map, hw, hgo, hrow, hci, hsi, List.getElem?_eq_getElem hlt, Cell.enc]
    exact ⟨bool_f (hbad (by rintro ⟨c, hc, h, _⟩; rw [hget] at hc; cases hc; exact h1 h)), _, rfl⟩
  ·have hci : ¬ (i : Int) < (l.length : Int) := by omega
   simp only [go_sem, List.length_map, hci]
   exact ⟨bool_t fun j hj => hno j (by omega), _, rfl⟩
end Go.Proofs
namespace Go.Proofs
open Go Go.Ev
variable {H : Heap}
def there (c : Cell) : Prop := 0 < c.ver ∧ c.del = false
instance (c : Cell) : Decidable (there c) := inferInstanceAs (Decidable (_ ∧ _))
end Go.Proofs
namespace Go.Proofs
open Go Go.Ev
variable {H : Heap}
theorem clo50 : CloFn Tryz.prog 114 5 56 [.str [], .str [], .int .i64 0, .bool false, .int .i64 0] := ⟨⟨Tryz.f114, Tryz.func114, by kernel_rfl, by kernel_rfl⟩, rfl, by decide⟩
theorem ins51 : InsFn Tryz.prog 296 5 56 [.str [], .str [], .int .i64 0, .bool false, .int .i64 0] := ⟨⟨Tryz.f296, 302, 303, Tryz.func296, by kernel_rfl, by kernel_rfl, by kernel_rfl, by kernel_rfl⟩, rfl, by decide⟩
noncomputable def withL (l : List Cell) (c : Cell) : List Cell :=
 match l with
 | [] => [c]
 | d :: l => if ltS d.key c.key then d :: withL l c else if d.key = c.key then c :: l else c :: d :: l
theorem withL_at : ∀ (l : List Cell) (c : Cell) (i : Nat), (∀ j d, j < i → l[j]? = some d → ltS d.key c.key) → i ≤ l.length →
  (∀ d, l[i]? = some d → ¬ ltS d.key c.key) → withL l c = l.take i ++ c :: (match l[i]? with | none => [] | some d => if d.key = c.key then l.drop (i + 1) else l.drop i)
 | [], c, i, _, hi, _ => by
  obtain rfl : i = 0 := by simpa using hi
  rfl
 | d :: l, c, 0, _, _, h => by
  have := h d rfl
  simp [withL, this]
  split <;> rfl
 | d :: l, c, i + 1, h, hi, h2 => by
  have h1 := h 0 d (by omega) rfl
  have ih := withL_at l c i (fun j e hj he => h (j + 1) e (by omega) (by simpa using he)) (by simpa using hi) (fun e he => h2 e (by simpa using he))
  simp only [withL, h1, if_true, ih, List.take_succ_cons, List.cons_append, List.getElem?_cons_succ, List.drop_succ_cons]
noncomputable def withC (l : List Cell) (c : Cell) : List Cell := if cellIs c then withL l c else l
def frV (v : AV) (k : K) (esz n : Nat) : AV := match v with | .nils => outV k esz n | _ => .slice k 0 n esz false n
def frL (v : AV) (esz : Nat) (xs : List (List AV)) : List Blk := match v with | .nils => outL esz xs | _ => [.row true esz xs]
theorem f279_nil {c : Cell} : FnOk Tryz.prog 279 [.nils, .agg c.enc] H fun r G => r = frV (.nils) H.nx 5 (withC [] c).length ∧ G = H.ext (frL (.nils) 5 ((withC [] c).map Cell.enc)) := by
 refine FnOk.assume fun hok => ?_
 by_cases hc : cellIs c
 ·rw [withC, if_pos hc]
  refine FnOk.drop1 (esz := 5) (n := 1) (ex := false) (cap := 1) (b := .row true 5 [c.enc]) ?_ (fun ρ => by simp only [Blk.ren, List.map_cons, List.map_nil, Cell.rens])
  refine FnOk.of_WW Tryz.func279 rfl C279ok R279ok E0 good_E0 ?_
  simp only [go_sem, C279, Cell.enc]
  refine CL.of (clone_nil clo50) ?_
  rintro _ _ ⟨rfl, rfl⟩
  simp only [go_sem, Cell.enc]
  refine CL.bool (f187_ok c) (fun h1 => ?_) (fun h1 => absurd hc h1)
  simp only [go_sem]
  refine LL.st good_E0 (fun i : Nat => 0) (fun i => True)
   (fun i => [((.o (.o .z)), .ptr (H.key 0) 0), ((.o (.i .z)), .nils), ((.i (.i .z)), .int .i64 0)])
   (fun i => [.row true 5 [c.enc]]) ?_ 0 (σ := [0]) (Wk.mk' rfl (by decide) (by simp only [go_sem, Cell.enc]) (by simp only [go_sem, Cell.enc])) trivial
  rintro i -
  simp only [go_sem, Cell.enc]
  refine CL.of (insert_nil ins51 (x := c.enc) (wr := true) (by rw [Heap.get_ext_key _ _ _ (by simp)]; rfl) (by decide)) ?_
  rintro _ _ ⟨rfl, rfl⟩
  simp only [go_sem]
  exact ⟨_, 2, rfl, rfl, rfl⟩
 ·rw [withC, if_neg hc]
  refine (FnOk.drop (R := fun r => r = .nils) ?_ (by rintro v rfl ρ; rw [AV.ren])).mono (by rintro v G ⟨rfl, rfl⟩; exact ⟨rfl, (Heap.ext_nil _).symm⟩)
  refine FnOk.of_WW Tryz.func279 rfl C279ok R279ok E0 good_E0 ?_
  simp only [go_sem, C279, Cell.enc]
  refine CL.of (clone_nil clo50) ?_
  rintro _ _ ⟨rfl, rfl⟩
  simp only [go_sem, Cell.enc]
  refine CL.bool (f187_ok c) (fun h1 => absurd h1 hc) (fun h1 => ?_)
  simp only [go_sem]
  exact ⟨_, rfl⟩
theorem f279_zero {c : Cell} {k : K} {off : Nat} {ex : Bool} {cap : Nat} : FnOk Tryz.prog 279 [.slice k off 0 5 ex cap, .agg c.enc] H fun r G => r = frV (.slice k off 0 5 ex cap) H.nx 5 (withC [] c).length ∧ G = H.ext (frL (.slice k off 0 5 ex cap) 5 ((withC [] c).map Cell.enc)) := by
 refine FnOk.assume fun hok => ?_
 by_cases hc : cellIs c
 ·rw [withC, if_pos hc]
  refine FnOk.drop1 (esz := 5) (n := 1) (ex := false) (cap := 1) (b := .row true 5 [c.enc]) ?_ (fun ρ => by simp only [Blk.ren, List.map_cons, List.map_nil, Cell.rens])
  refine FnOk.of_WW Tryz.func279 rfl C279ok R279ok E0 good_E0 ?_
  simp only [go_sem, C279, Cell.enc]
  refine CL.of (clone_zero clo50) ?_
  rintro _ _ ⟨rfl, rfl⟩
  simp only [go_sem, Cell.enc]
  refine CL.bool (f187_ok c) (fun h1 => ?_) (fun h1 => absurd hc h1)
  simp only [go_sem]
  refine LL.st good_E0 (fun i : Nat => 0) (fun i => True)
   (fun i => [((.o (.o .z)), .ptr (H.key 0) 0), ((.o (.i .z)), .slice (H.key 1) 0 0 5 true 0), ((.i (.i .z)), .int .i64 0)])
   (fun i => [.row true 5 [c.enc], .row true 5 []]) ?_ 0 (σ := [0, 1]) (Wk.mk' rfl (by decide) (by simp only [go_sem, Cell.enc]) (by simp only [go_sem, Cell.enc])) trivial
  rintro i -
  simp only [go_sem, Cell.enc]
  refine CL.of (insert_zero ins51 (x := c.enc) (wr := true) (by rw [Heap.get_ext_key _ _ _ (by simp)]; rfl) (by rw [Heap.get_ext_key _ _ _ (by simp)]; rfl) (by decide)) ?_
  rintro _ _ ⟨rfl, rfl⟩
  simp only [go_sem]
  exact ⟨_, 3, rfl, rfl, rfl⟩
 ·rw [withC, if_neg hc]
  refine FnOk.loose (FnOk.drop1 (esz := 5) (n := 0) (ex := true) (cap := 0) (b := .row true 5 []) ?_ (fun ρ => rfl))
  refine FnOk.of_WW Tryz.func279 rfl C279ok R279ok E0 good_E0 ?_
  simp only [go_sem, C279, Cell.enc]
  refine CL.of (clone_zero clo50) ?_
  rintro _ _ ⟨rfl, rfl⟩
  simp only [go_sem, Cell.enc]
  refine CL.bool (f187_ok c) (fun h1 => absurd h1 hc) (fun h1 => ?_)
  simp only [go_sem]
  exact ⟨_, 1, rfl, rfl, rfl⟩
theorem f279_arr {c : Cell} {l : List Cell} {k : K} {off : Nat} {ex : Bool} {cap : Nat} (hA : Arr H 5 (.slice k off (l.map Cell.enc).length 5 ex cap) (l.map Cell.enc)) (h0 : 0 < l.length) (hl : l.length < 4294967295) :
  FnOk Tryz.prog 279 [.slice k off (l.map Cell.enc).length 5 ex cap, .agg c.enc] H fun r G => r = .slice H.nx 0 (withC l c).length 5 false (withC l c).length ∧ G = H.ext [.row true 5 ((withC l c).map Cell.enc)] := by
 refine FnOk.assume fun hok => ?_
 have hmb : (2 * (l.map Cell.enc).length + 192) * 56 ≤ 281474976710656 := by rw [List.length_map]; omega
 have hclo := clone_any clo50 (hA.ext [.row true 5 [c.enc]]) hmb (Cell.map_rens · l)
 refine FnOk.drop1 (esz := 5) (n := (withC l c).length) (ex := false) (cap := (withC l c).length) (b := .row true 5 ((withC l c).map Cell.enc)) ?_ (fun ρ => by rw [Blk.ren, Cell.map_rens])
 refine FnOk.of_WW Tryz.func279 rfl C279ok R279ok E0 good_E0 ?_
 simp only [go_sem, C279, Cell.enc]
 simp only [Cell.enc, List.length_map] at hclo
 refine CL.of hclo ?_
 rintro v G (⟨rfl, hn, rfl⟩ | ⟨rfl, rfl⟩)
 ·exact absurd (congrArg List.length hn) (by rw [List.length_map, List.length_nil]; omega)
 have hins : ∀ i ≤ l.length, _ := fun i (hi : i ≤ l.length) => insert_own (H := H.ext [.row true 5 [c.enc], .row true 5 (l.map Cell.enc), .row true 5 [c.enc]]) ins51 (kv := H.key 2) (k := H.key 1) (x := c.enc) (i := i) (rows := l.map Cell.enc) (fun e => absurd (congrArg K.toNat e) (by rw [Heap.toNat_key, Heap.toNat_key]; omega)) (by rw [Heap.get_ext_key _ _ _ (by simp)]; rfl) (by rw [Heap.get_ext_key _ _ _ (by simp)]; rfl) (by rw [List.length_map]; omega) (by rw [List.length_map]; omega) (by rw [List.length_map]; omega) (by rw [List.length_map]; omega)
 simp only [Cell.enc, List.length_map] at hins
 simp only [go_sem, List.length_map]
 refine CL.bool (f187_ok c) (fun h1 => ?_) (fun h1 => ?_)
 ·simp only [go_sem]
  rw [withC, if_pos h1]
  refine LL.st good_E0 (fun i : Nat => l.length - i) (fun i => i ≤ l.length ∧ ∀ j d, j < i → l[j]? = some d → ltS d.key c.key)
   (fun i => [((.o (.o .z)), .ptr (H.key 0) 0), ((.o (.i .z)), .slice (H.key 1) 0 l.length 5 false l.length), ((.i (.i .z)), .int .i64 i)])
   (fun i => [.row true 5 [c.enc], .row true 5 (l.map Cell.enc)]) ?_ 0 (σ := [0, 1]) (Wk.mk' rfl (by decide) (by simp only [go_sem, Cell.enc, Cell.map_rens]) (by simp only [go_sem, Cell.enc, Cell.map_rens])) ⟨by omega, by intro j d h; omega⟩
  rintro i ⟨hi, hno⟩
  have hins := hins i hi
  by_cases hlt : i < l.length
  ·have hw := wrap_succ (n := i) (by omega)
   have hci : (i : Int) < (l.length : Int) := by omega
   have hsi : i + 1 ≤ l.length := by omega
   have hget : l[i]? = some l[i] := List.getElem?_eq_getElem hlt
   have hmi : (l.map Cell.enc)[i]? = some l[i].enc := by rw [List.getElem?_map, hget]; rfl
   simp only [go_sem, hw, hci, hsi, hmi, hget, Cell.enc]
   refine ⟨fun h2 => ?_, fun h2 => ?_⟩
   ·refine ⟨i + 1, by show l.length - (i + 1) < l.length - i; omega, ⟨by omega, ?_⟩, _, [0, 1], rfl, Wk.mk' rfl (by decide) (by simp only [go_sem, List.length_map, Cell.map_rens]) (by simp only [go_sem, List.length_map, Cell.map_rens])⟩
    intro j d hj hd
    rcases Nat.lt_or_ge j i with g | g
    ·exact hno j d g hd
    ·obtain rfl : j = i := by omega
     rw [hget] at hd; cases hd; exact h2
   ·have hwl := withL_at l c i hno hi (fun d hd => by rw [hget] at hd; cases hd; exact h2)
    rw [hget] at hwl
    refine ⟨fun h3 => ?_, fun h3 => ?_⟩
    ·rw [hwl]
     simp only [h3, if_true]
     have hlen : (List.take i l ++ c :: List.drop (i + 1) l).length = l.length := by rw [List.length_append, List.length_take, List.length_cons, List.length_drop]; omega
     rw [hlen]
     refine ⟨_, 1, rfl, rfl, ?_⟩
     rw [List.map_append, List.map_cons, List.map_take, List.map_drop]
     rw [show [AV.str c.key, AV.str c.value, AV.int .i64 c.ver, AV.bool c.del, AV.int .i64 c.floor] = c.enc from rfl, List.set_eq_take_append_cons_drop, if_pos (by rw [List.length_map]; exact hlt)]
     rfl
    ·refine CL.of hins ?_
     rintro _ _ ⟨rfl, rfl⟩
     simp only [go_sem, List.length_map]
     rw [hwl]
     simp only [h3, if_false]
     have hlen : (List.take i l ++ c :: List.drop i l).length = l.length + 1 := by rw [List.length_append, List.length_take, List.length_cons, List.length_drop]; omega
     rw [hlen, Heap.set_ext_key _ _ _ _ (by simp), Heap.ext_append]
     refine ⟨_, 3, rfl, rfl, ?_⟩
     rw [List.map_append, List.map_cons]
     first | rw [List.map_take, List.map_drop] | rw [List.map_take, List.map_nil]
     rfl
  ·have hci : ¬ (i : Int) < (l.length : Int) := by omega
   have hin : i = l.length := by omega
   have hnone : l[i]? = none := List.getElem?_eq_none (by omega)
   have hwl := withL_at l c i hno hi (fun d hd => by rw [hnone] at hd; cases hd)
   rw [hnone] at hwl
   simp only [go_sem, List.length_map, hci, Cell.enc]
   refine CL.of hins ?_
   rintro _ _ ⟨rfl, rfl⟩
   simp only [go_sem, List.length_map]
   rw [hwl]
   have hlen : (List.take i l ++ [c]).length = l.length + 1 := by rw [List.length_append, List.length_take, List.length_cons, List.length_nil]; omega
   have hdr : List.drop i (l.map Cell.enc) = [] := List.drop_of_length_le (by rw [List.length_map]; omega)
   simp only [hdr]
   rw [hlen, Heap.set_ext_key _ _ _ _ (by simp), Heap.ext_append]
   refine ⟨_, 3, rfl, rfl, ?_⟩
   rw [List.map_append, List.map_cons]
   first | rw [List.map_take, List.map_drop] | rw [List.map_take, List.map_nil]
   rfl
 ·simp only [go_sem]
  rw [withC, if_neg h1]
  exact ⟨_, 1, rfl, rfl, rfl⟩
end Go.Proofs
namespace Go.Proofs
open Go Go.Ev
variable {H : Heap}
theorem f279_ok {v : AV} {l : List Cell} (hA : Arr H 5 v (l.map Cell.enc)) (hl : l.length < 4294967295) (c : Cell) :
  FnOk Tryz.prog 279 [v, .agg c.enc] H fun r G => r = frV v H.nx 5 (withC l c).length ∧ G = H.ext (frL v 5 ((withC l c).map Cell.enc)) := by
 rcases hA.forms with ⟨rfl, hnil⟩ | ⟨k, off, ex, cap, rfl, _⟩
 ·obtain rfl : l = [] := List.map_eq_nil_iff.1 hnil
  exact f279_nil
 ·rcases Nat.eq_zero_or_pos l.length with h0 | h0
  ·obtain rfl := List.length_eq_zero_iff.1 h0
   exact f279_zero
  ·exact f279_arr hA h0 hl
noncomputable def stepW (c : Cell) (s : List Cell × Bool) (d : Cell) : List Cell × Bool :=
 let s' := if s.2 = false ∧ ¬ ltS d.key c.key then (s.1 ++ [c], true) else s
 (if d.key = c.key then s'.1 else s'.1 ++ [d], s'.2)
noncomputable def runW (c : Cell) (l : List Cell) : List Cell × Bool := l.foldl (stepW c) ([], false)
noncomputable def refW (l : List Cell) (c : Cell) : List Cell := if (runW c l).2 then (runW c l).1 else (runW c l).1 ++ [c]
theorem runW_next {c d : Cell} {l : List Cell} {i : Nat} (h : l[i]? = some d) : runW c (l.take (i + 1)) = stepW c (runW c (l.take i)) d := by
 rw [take_next h, runW, List.foldl_append]; rfl
theorem stepW_len (c d : Cell) (s : List Cell × Bool) : (stepW c s d).1.length + (if (stepW c s d).2 then 0 else 1) ≤ s.1.length + (if s.2 then 0 else 1) + 1 := by
 unfold stepW
 rcases s with ⟨a, b⟩
 by_cases h1 : b = false ∧ ¬ ltS d.key c.key
 ·simp only [h1, and_self, if_true]
  split <;> simp <;> (obtain ⟨rfl, _⟩ := h1; simp) <;> omega
 ·simp only [if_neg h1]
  split <;> simp <;> omega
theorem runW_len (c : Cell) (l : List Cell) (i : Nat) (hi : i ≤ l.length) : (runW c (l.take i)).1.length + (if (runW c (l.take i)).2 then 0 else 1) ≤ i + 1 := by
 induction i with
 | zero => simp [runW]
 | succ i ih =>
  have hget : l[i]? = some l[i] := List.getElem?_eq_getElem (by omega)
  rw [runW_next hget]
  have := stepW_len c l[i] (runW c (l.take i))
  have := ih (by omega)
  omega
theorem mx56 {n : Nat} (h : n < 4294967296) : (2 * (n + 1 + 1) + 192) * 56 ≤ 281474976710656 := by omega
theorem mx56b {n : Nat} (h : n < 4294967296) : (2 * (n + 1 + 1 + 1) + 192) * 56 ≤ 281474976710656 := by omega
end Go.Proofs
namespace Go.Proofs
open Go Go.Ev
variable {H : Heap}
theorem filter_all {c : Cell} : ∀ (l : List Cell) (a : List Cell), (∀ d ∈ l, d.key ≠ c.key) → l.foldl (stepW c) (a, true) = (a ++ l, true)
 | [], a, _ => by simp
 | d :: l, a, h => by
  have h1 := h d (by simp)
  rw [List.foldl_cons, show stepW c (a, true) d = (a ++ [d], true) by simp [stepW, h1], filter_all l _ fun x hx => h x (by simp [hx])]
  simp
theorem fold_withL {c : Cell} : ∀ (l : List Cell) (a : List Cell), List.Pairwise (fun x y => ltS x.key y.key) l → (if (l.foldl (stepW c) (a, false)).2 then (l.foldl (stepW c) (a, false)).1 else (l.foldl (stepW c) (a, false)).1 ++ [c]) = a ++ withL l c
 | [], a, _ => by simp [withL]
 | d :: l, a, h => by
  rw [List.pairwise_cons] at h
  rw [List.foldl_cons, withL]
  by_cases h1 : ltS d.key c.key
  ·have hne : d.key ≠ c.key := fun e => ltS_irrefl _ (e ▸ h1)
   rw [show stepW c (a, false) d = (a ++ [d], false) by simp [stepW, h1, hne], fold_withL l _ h.2, if_pos h1]
   simp
  ·rw [if_neg h1]
   by_cases h2 : d.key = c.key
   ·rw [show stepW c (a, false) d = (a ++ [c], true) by simp [stepW, h2, ltS_irrefl], filter_all l _ (fun x hx e => ltS_irrefl _ (show ltS c.key c.key by have := h.1 x hx; rw [e, h2] at this; exact this)), if_pos h2]
    simp
   ·have h3 : ltS c.key d.key := by rcases ltS_tri d.key c.key with g | g | g; exact absurd g h1; exact absurd g h2; exact g
    rw [show stepW c (a, false) d = (a ++ [c] ++ [d], true) by simp [stepW, h1, h2], filter_all l _ (fun x hx e => ltS_irrefl _ (show ltS c.key c.key by have := ltS_trans h3 (h.1 x hx); rw [e] at this; exact this)), if_neg h2]
    simp
theorem isIdx_pair {l : List Cell} (h : isIdx l) : List.Pairwise (fun x y => ltS x.key y.key) l := by
 have key : ∀ (n i : Nat) (c d : Cell), l[i]? = some c → l[i + n + 1]? = some d → ltS c.key d.key := by
  intro n
  induction n with
  | zero =>
   intro i c d hc hd
   obtain ⟨d', h1, _, h2⟩ := h (i + 1) (List.getElem?_eq_some_iff.1 hd).1
   rw [show i + 0 + 1 = i + 1 from rfl, h1] at hd; cases hd
   obtain ⟨c', h3, h4⟩ := h2 (by omega)
   rw [Nat.add_sub_cancel, hc] at h3; cases h3
   exact h4
  | succ n ih =>
   intro i c d hc hd
   have hi := (List.getElem?_eq_some_iff.1 hd).1
   obtain ⟨e, he⟩ : ∃ e, l[i + 1]? = some e := ⟨_, List.getElem?_eq_getElem (by omega)⟩
   obtain ⟨e', h1, _, h2⟩ := h (i + 1) (by omega)
   rw [he] at h1; cases h1
   obtain ⟨c', h3, h4⟩ := h2 (by omega)
   rw [Nat.add_sub_cancel, hc] at h3; cases h3
   exact ltS_trans h4 (ih (i + 1) e d he (by rw [← hd]; congr 1; omega))
 rw [List.pairwise_iff_getElem]
 intro i j hi hj hij
 exact key (j - i - 1) i _ _ (List.getElem?_eq_getElem hi) (by rw [show i + (j - i - 1) + 1 = j by omega]; exact List.getElem?_eq_getElem hj)
theorem refW_eq {l : List Cell} (h : isIdx l) (c : Cell) : refW l c = withL l c := fold_withL l [] (isIdx_pair h)
end Go.Proofs
namespace Go.Proofs
open Go Go.Ev
variable {H : Heap}
def byteV (b : Nat) : AV := .int .u8 (b : Int)
def byteC (b : Nat) : List AV := [byteV b]
theorem byteC_rens (ρ : K → K) (l : List Nat) : (l.map byteC).map (AV.rens ρ) = l.map byteC := by
 rw [List.map_map]
 refine List.map_congr_left fun j _ => ?_
 show [AV.ren ρ (.int .u8 (j : Int))] = _
 rw [AV.ren]; rfl
theorem byteC_ren1 (ρ : K → K) (b : Nat) : AV.rens ρ (byteC b) = byteC b := by show [AV.ren ρ (.int .u8 (b : Int))] = _; rw [AV.ren]; rfl
theorem bytesC_all {β : Type} : ∀ {l : List Nat} (_ : ∀ b ∈ l, b ≤ 255) (f : β) (c : List Nat → β), bytesC (l.map byteV) f c = c l
 | [], _, _, _ => rfl
 | b :: l, h, f, c => by
  show bif' (Nat.beq (kn .u8) 4) (bif' (Nat.ble b 255) (bytesC (l.map byteV) f fun r => c (b :: r)) f) f = _
  rw [show Nat.beq (kn .u8) 4 = true from rfl, bif_true, show Nat.ble b 255 = true by rw [Nat.ble_eq]; exact h b (by simp), bif_true]
  exact bytesC_all (fun x hx => h x (by simp [hx])) f _
theorem flat_bytes : ∀ l : List Nat, (l.map byteC).flatten = l.map byteV
 | [] => rfl
 | b :: l => by rw [List.map_cons, List.flatten_cons, flat_bytes l]; rfl
theorem read_bytes {β : Type} {l : List Nat} (h : 0 < l.length) (f : β) (c : List AV → β) : readC f 1 (l.map byteC) 0 l.length c = c (l.map byteV) := by
 match l, h with
 | b :: l, _ =>
  by_cases hl : l = []
  ·subst hl
   simp only [List.map_cons, List.map_nil, List.length_cons, List.length_nil]
   rfl
  ·have h1 : 0 < l.length := List.length_pos_iff.2 hl
   have h2 : ((b :: l).map byteC).flatten = (b :: l).map byteV := flat_bytes _
   unfold readC
   simp only [fN_eq, nthL_eq, Nat.zero_div, Nat.zero_mod, dropL_eq, List.drop_zero, flatL_eq, h2, takeC_eq, Nat.zero_add, List.length_map, Nat.le_refl, if_true]
   show bif' (Nat.beq 0 0 && Nat.beq (b :: l).length 1) (c [byteV b]) (bif' (Nat.ble (b :: l).length 1) (if (b :: l).length ≤ 1 then c _ else f) (c (List.take (b :: l).length _))) = _
   rw [show Nat.beq (b :: l).length 1 = false by rw [Bool.eq_false_iff]; intro e; rw [Nat.beq_eq] at e; simp at e; exact hl e, show Nat.ble (b :: l).length 1 = false by rw [Bool.eq_false_iff]; intro e; rw [Nat.ble_eq, List.length_cons] at e; omega]
   show c _ = c _
   rw [List.take_of_length_le (by rw [List.length_map]; exact Nat.le_refl _)]
theorem and63 {m : Nat} (h : m < 9223372036854775808) : IntKind.i64.wrap ((BitVec.ofInt IntKind.i64.bits (m : Int) &&& BitVec.ofInt IntKind.i64.bits 63).toNat : Int) = ((m % 64 : Nat) : Int) := by
 have h1 : (BitVec.ofInt IntKind.i64.bits (m : Int) &&& BitVec.ofInt IntKind.i64.bits 63).toNat = m % 64 := by
  rw [BitVec.toNat_and, BitVec.toNat_ofInt, BitVec.toNat_ofInt]
  show ((m : Int) % ((2 ^ 64 : Nat) : Int)).toNat &&& ((63 : Int) % ((2 ^ 64 : Nat) : Int)).toNat = _
  rw [show ((m : Int) % ((2 ^ 64 : Nat) : Int)).toNat = m by omega, show ((63 : Int) % ((2 ^ 64 : Nat) : Int)).toNat = 2 ^ 6 - 1 by decide, Nat.and_two_pow_sub_one_eq_mod]
 rw [h1]
 exact wrap_i64 (by omega) (by omega)
theorem or64 {r : Nat} (h : r < 64) : IntKind.i64.wrap ((BitVec.ofInt IntKind.i64.bits 64 ||| BitVec.ofInt IntKind.i64.bits (r : Int)).toNat : Int) = ((64 + r : Nat) : Int) := by
 have h1 : (BitVec.ofInt IntKind.i64.bits 64 ||| BitVec.ofInt IntKind.i64.bits (r : Int)).toNat = 64 + r := by
  rw [BitVec.toNat_or, BitVec.toNat_ofInt, BitVec.toNat_ofInt]
  show ((64 : Int) % ((2 ^ 64 : Nat) : Int)).toNat ||| ((r : Int) % ((2 ^ 64 : Nat) : Int)).toNat = _
  rw [show ((r : Int) % ((2 ^ 64 : Nat) : Int)).toNat = r by omega, show ((64 : Int) % ((2 ^ 64 : Nat) : Int)).toNat = 2 ^ 6 * 1 by decide]
  exact (Nat.two_pow_add_eq_or_of_lt (i := 6) h 1).symm
 rw [h1]
 exact wrap_i64 (by omega) (by omega)
theorem bin_and63 {β : Type} {P : Program} (ek : EK) (pk : Option (List LK)) (lit : Bool) {m : Nat} (h : m < 9223372036854775808) (f : β) (c : AV → β) : binV P ek pk lit .and (.int .i64 (m : Int)) (.int .i64 63) f c = c (.int .i64 ((m % 64 : Nat) : Int)) := by rw [bin_and, and63 h]
theorem bin_or64 {β : Type} {P : Program} (ek : EK) (pk : Option (List LK)) (lit : Bool) {r : Nat} (h : r < 64) (f : β) (c : AV → β) : binV P ek pk lit .or (.int .i64 64) (.int .i64 (r : Int)) f c = c (.int .i64 ((64 + r : Nat) : Int)) := by rw [bin_or, or64 h]
@[go_sem] theorem bin_shr6 {β : Type} {P : Program} (ek : EK) (pk : Option (List LK)) (lit : Bool) (a : Int) (f : β) (c : AV → β) : binV P ek pk lit .shr (.int .i64 a) (.int .u64 6) f c = c (.int .i64 (a.fdiv 64)) := bin_shr ek pk lit .i64 a f c .u64 6
def numT (n : Nat) : List Nat := if h : n < 64 then [n] else (64 + n % 64) :: numT (n / 64)
termination_by n
decreasing_by omega
theorem numT_lo {n : Nat} (h : n < 64) : numT n = [n] := by rw [numT, dif_pos h]
theorem numT_hi {n : Nat} (h : ¬ n < 64) : numT n = (64 + n % 64) :: numT (n / 64) := by rw [numT, dif_neg h]
theorem numT_len : ∀ (k n : Nat), n < 64 ^ (k + 1) → (numT n).length ≤ k + 1
 | 0, n, h => by rw [numT_lo (by simpa using h)]; simp
 | k + 1, n, h => by
  by_cases hn : n < 64
  ·rw [numT_lo hn]; simp
  ·rw [numT_hi hn, List.length_cons]
   have : n / 64 < 64 ^ (k + 1) := by
    rw [Nat.div_lt_iff_lt_mul (by decide)]
    rw [Nat.pow_succ] at h
    exact h
   have := numT_len k (n / 64) this
   omega
theorem numT_pos (n : Nat) : 0 < (numT n).length := by
 by_cases hn : n < 64
 ·rw [numT_lo hn]; simp
 ·rw [numT_hi hn]; simp
theorem numT_small {n : Nat} (h : n < 9223372036854775808) : (numT n).length ≤ 11 := numT_len 10 n (by omega)
theorem f122_ok {n : Nat} (hn : n < 9223372036854775808) : FnOk Tryz.prog 122 [.int .i64 (n : Int)] H fun r G => r = .str (numT n) ∧ G = H := by
 refine FnOk.drop (R := fun r => r = .str (numT n)) ?_ (by rintro v rfl ρ; rw [AV.ren])
 refine FnOk.of_WW Tryz.func122 rfl C122ok R122ok E0 good_E0 ?_
 have hmax : max (n : Int) 0 = (n : Int) := by omega
 simp only [go_sem, C122, hmax]
 refine LL.st good_E0 (fun s : Nat × List Nat => s.1) (fun s => s.1 ≤ n ∧ s.2 ++ numT s.1 = numT n ∧ ∀ b ∈ s.2, b ≤ 255)
  (fun s => [(.z, .int .i64 s.1), ((.o (.o .z)), outV (H.key 0) 1 s.2.length)]) (fun s => [outB 1 (s.2.map byteC)]) ?_ (n, []) (σ := [0]) (Wk.of rfl (by decide) (by simp only [go_sem]) (by simp only [go_sem, ↓outB_ren', ↓zB_ren, byteC_rens, byteC_ren1, implies_true])) ⟨Nat.le_refl _, rfl, by simp⟩
 rintro ⟨m, acc⟩ ⟨hm, hacc, hby⟩
 simp only at hm hacc hby
 have hlen := congrArg List.length hacc
 rw [List.length_append] at hlen
 have h11 := numT_small hn
 have hmp := numT_pos m
 by_cases hlt : m < 64
 ·have hc : ¬ (64 : Int) ≤ (m : Int) := by omega
  have hw := wrap_u8 (m := m) (by omega)
  simp only [go_sem, ↓appR_hide, hc, hw]
  refine RW_app _ (byteC m) rfl (List.length_map ..) rfl (okBig_le (by omega) (by decide)) ?_
  have hs : acc.map byteC ++ [byteC m] = (acc ++ [m]).map byteC := by rw [List.map_append]; rfl
  have hsl : (acc ++ [m]).length = acc.length + 1 := by rw [List.length_append]; rfl
  have hB := outB_pos (e := 1) (xs := (acc ++ [m]).map byteC) (by rw [List.length_map, hsl]; omega)
  have hrd := fun c => read_bytes (l := acc ++ [m]) (by omega) R1.fail c
  have hall := fun c => bytesC_all (l := acc ++ [m]) (fun b hb => by
   rcases List.mem_append.1 hb with h | h
   ·exact hby b h
   ·rw [List.mem_singleton] at h; omega) R1.fail c
  rw [hsl] at hrd
  rw [hs, hB]
  rw [numT_lo hlt] at hacc
  rw [hacc] at hall hrd ⊢
  simp only [go_sem, hrd, hall]
  exact ⟨_, rfl⟩
 ·have hc : (64 : Int) ≤ (m : Int) := by omega
  have ha := fun f c => bin_and63 (β := R1) (P := Tryz.prog) .no none true (m := m) (by omega) f c
  have hr : m % 64 < 64 := Nat.mod_lt _ (by decide)
  have ho := fun f c => bin_or64 (β := R1) (P := Tryz.prog) .no none true hr f c
  have hu := wrap_u8 (m := 64 + m % 64) (by omega)
  have hs : Int.fdiv (m : Int) 64 = ((m / 64 : Nat) : Int) := by rw [Int.fdiv_eq_ediv_of_nonneg _ (by decide)]; omega
  simp only [go_sem, ↓appR_hide, hc, ↓ha, ↓ho, hu, hs]
  refine RW_app _ (byteC (64 + m % 64)) rfl (List.length_map ..) rfl (okBig_le (by omega) (by decide)) ?_
  have hs2 : acc.map byteC ++ [byteC (64 + m % 64)] = (acc ++ [64 + m % 64]).map byteC := by rw [List.map_append]; rfl
  rw [hs2]
  simp only [go_sem, hs]
  refine ⟨(m / 64, acc ++ [64 + m % 64]), by show m / 64 < m; omega, ⟨by show m / 64 ≤ n; omega, ?_, ?_⟩, _, [2], rfl, Wk.of rfl (by decide) (by simp only [go_sem, outV_ren']) (by simp only [go_sem, ↓outB_ren', ↓zB_ren, byteC_rens, byteC_ren1, implies_true])⟩
  ·show (acc ++ [64 + m % 64]) ++ numT (m / 64) = numT n
   rw [← hacc, numT_hi hlt, List.append_assoc]; rfl
  ·intro b hb
   rcases List.mem_append.1 hb with h | h
   ·exact hby b h
   ·rw [List.mem_singleton] at h; omega
end Go.Proofs
