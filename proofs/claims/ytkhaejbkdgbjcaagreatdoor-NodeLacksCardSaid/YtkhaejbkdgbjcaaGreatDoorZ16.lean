/- The told package variable: what a law's condition gives; a world that meets it. -/
import Derived.Test.YtkhaejbkdgbjcaaGreatDoorZ15
import Derived.Test.YtkhaejbkdgbjcaaGreatDoorProg
import Derived.Test.YtkhaejbkdgbjcaaGreatDoorRows
import Derived.Test.YtkhaejbkdgbjcaaGreatDoorTie
import Derived.KernelRfl
import Derived.ChangeSame
import Derived.ChangeVars
import Derived.RowKit
import Derived.LaidLaws
import Derived.LaidHandle
import Derived.SevenTiedAt
import Derived.JoinedOf
set_option linter.all false
set_option maxRecDepth 100000
namespace Go.Proofs.YtkhaejbkdgbjcaaGreatDoor
open Go Go.Ev Go.ChangeShapes Go.WideShapes Go.ChangeAt Go.RowKit
theorem Tryz.own : ownKnob Tryz.prog.godebug = none := by kernel_rfl
theorem Tryz.laidOut : laidOutB Tryz.prog = true := by kernel_rfl
theorem Tryz.et : Tryz.prog.globalNamed "errors.errorType" = some 0 := by kernel_rfl
theorem Tryz.rt : (Tryz.prog.cutTypes.find? (·.1 == "internal/reflectlite.rtype")).map (·.2) = some 242 := by kernel_rfl
theorem Tryz.size : Tryz.prog.types.size = 389 := by kernel_rfl
theorem Tryz.oneRow : ((List.range 389).filter fun t => Tryz.prog.rowNamed t [101, 114, 114, 111, 114]) = [72] := by kernel_rfl
/-- what is told -/
def laid0 : List (String × DataW Unit) := [("errors.errorType", Rows.laid_errors_errorType)]
/-- the variable's one cell -/
theorem handle_of_laid {W : World} (h : laidMetH Tryz.prog laid0 W) : W.cell? ⟨0, 0, none⟩ = some (.iface 242 (.agg #[.pointer (some ⟨2, 72, none⟩)])) := by
  have h' : laidMet Tryz.prog [] W ∧ handlesMet Tryz.prog laid0 W := h
  obtain ⟨name, u, ty, e1, e2, e3, e4, e5⟩ := h'.2 _ (List.mem_singleton.2 rfl)
  have en : name = [101, 114, 114, 111, 114] := (Option.some.inj e1).symm
  subst en
  obtain rfl := Option.some.inj (Tryz.rt.symm.trans e2)
  have hm : ty ∈ (List.range 389).filter fun t => Tryz.prog.rowNamed t [101, 114, 114, 111, 114] := List.mem_filter.2 ⟨List.mem_range.2 (by rw [← Tryz.size]; exact e3), e4⟩
  rw [Tryz.oneRow] at hm
  obtain rfl := List.mem_singleton.1 hm
  have hh : typeHandle Tryz.prog 72 = .pointer (some ⟨2, 72, none⟩) := by kernel_rfl
  rw [hh] at e5
  simpa using World.var?_cell Tryz.et e5 0
theorem rom_of_laid {W : World} (h : laidMetH Tryz.prog laid0 W) : ∀ g v, (g, v) ∈ romOf → W.cell? ⟨g, 0, none⟩ = some v := by
  intro g v hm
  have hm : (g, v) ∈ [(0, Value.iface 242 (.agg #[.pointer (some ⟨2, 72, none⟩)]))] := hm
  cases List.mem_singleton.1 hm
  exact handle_of_laid h
/-- a world that meets it -/
noncomputable def laidWorld (os : Os) : World :=
  let w0 := World.holding Tryz.prog os ⟨#[], #[], []⟩
  { w0 with heap := w0.heap.modify 0 fun
      | .cells _ t frozen => .cells #[.iface 242 (.agg #[.pointer (some ⟨2, 72, none⟩)])] t frozen
      | o => o }
theorem laidWorld_met (os : Os) (args : Array Value) : laidMetH Tryz.prog laid0 ((laidWorld os).forCall (fun _ _ => 0) ⟨#[], args, []⟩).memory :=
  laidMetH_of_parts (laidMet_nil _ _) (by kernel_rfl)
end Go.Proofs.YtkhaejbkdgbjcaaGreatDoor
/- Numbers that are given, opened. -/

set_option linter.all false
set_option maxRecDepth 100000
namespace Go.Ev
open Go.ChangeShapes Go.WideShapes Go.RowKit
variable {P : Program} {W : World}
/-- a byte that is given -/
theorem open_u8 {r : Reach} {b0 : Nat} {t : TypeId} {v : Value} (ht : P.underlying t = some (.int .u8)) (h : Value.okWide P W r b0 t v) : ∃ n : Nat, n ≤ 255 ∧ v = .int .u8 n := by
  obtain ⟨m, rfl⟩ := okWide_int ht h
  simp only [Value.okWide, ht, Cell.okWide, Cell.ok] at h
  have h1 : (0 : Int) ≤ m := h.2.1
  have h2 : m ≤ (255 : Int) := h.2.2
  obtain ⟨n, rfl⟩ := Int.eq_ofNat_of_zero_le h1
  exact ⟨n, by omega, rfl⟩
end Go.Ev
/- Conversions, as rules. -/

set_option linter.all false
namespace Go.Ev
@[go_sem] theorem convR_int (k : IntKind) (x : X) (T : Tr AV) (H : Heap) : convR (.int k) x T H = withX T x .fail fun v => asIntC v .fail fun _ n => wrapC k n fun n => .val (.int k n) H := rfl
@[go_sem] theorem convR_b2s (x : X) (T : Tr AV) (H : Heap) : convR .b2s x T H = withX T x .fail fun v => asSliceC v .fail (.val (.str []) H) fun k off len _ _ _ => loadC H k off len .fail fun l => bytesC l .fail fun ns => .val (.str ns) H := rfl
end Go.Ev
/- Slices that may be nil, handled as one: rules. -/

set_option linter.all false
namespace Go.Ev
variable {P : Program} {H : Heap}
theorem outV_ren' (ρ : K → K) (k : K) (e n : Nat) : AV.ren ρ (outV k e n) = outV (ρ k) e n := by
  cases n with
  | zero => show AV.ren ρ .nils = .nils; rw [AV.ren]
  | succ n => show AV.ren ρ (.slice k 0 (n + 1) e false (n + 1)) = .slice (ρ k) 0 (n + 1) e false (n + 1); rw [AV.ren]
theorem outB_ren' (ρ : K → K) {e : Nat} {xs : List (List AV)} (h : xs.map (AV.rens ρ) = xs) : Blk.ren ρ (outB e xs) = outB e xs := by
  cases xs with
  | nil => rfl
  | cons x xs => show Blk.row true e ((x :: xs).map (AV.rens ρ)) = Blk.row true e (x :: xs); rw [h]
theorem outB_pos {e : Nat} {xs : List (List AV)} (h : 0 < xs.length) : outB e xs = .row true e xs := by
  cases xs with
  | nil => exact absurd h (by decide)
  | cons x xs => rfl
@[go_sem] theorem len_out (k : K) (e n : Nat) (G : Heap) : asSliceC (outV k e n) R1.fail (R1.val (AV.int IntKind.i64 0) G) (fun _ _ len _ _ _ => R1.val (AV.int IntKind.i64 (len : Int)) G) = R1.val (.int .i64 n) G := by
  cases n with
  | zero => rfl
  | succ n => rfl
theorem Arr.len {v : AV} {esz : Nat} {xs : List (List AV)} (h : Arr H esz v xs) (G : Heap) : asSliceC v R1.fail (R1.val (AV.int IntKind.i64 0) G) (fun _ _ len _ _ _ => R1.val (AV.int IntKind.i64 (len : Int)) G) = R1.val (.int .i64 xs.length) G := by
  rcases h.forms with ⟨rfl, rfl⟩ | ⟨k, off, ex, cap, rfl, _⟩ <;> rfl
theorem Arr.at {v : AV} {esz : Nat} {xs : List (List AV)} (hok : H.ok) (h : Arr H esz v xs) {j : Nat} (hj : j < xs.length) : ∃ k r ex cap wr rows, v = .slice k (r * esz) xs.length esz ex cap ∧ (∀ top σ, rho H top σ k = k) ∧ (∀ L, (H.ext L).get k = some (.row wr esz rows)) ∧ rows[r + j]? = some xs[j] := by
  obtain ⟨k, r, ex, cap, wr, rows, e, hk, hg, _, hat⟩ := h.pick hj
  exact ⟨k, r, ex, cap, wr, rows, e, fun _ _ => rho_old hk, Heap.get_ext_old hok hg, by rw [hat j hj, List.getElem?_eq_getElem hj]⟩
theorem bytesC_one {β : Type} {m : Nat} (h : m ≤ 255) (f : β) (c : List Nat → β) : bytesC [.int .u8 (m : Int)] f c = c [m] := by
  show bif' (Nat.beq (kn .u8) 4) (bif' (Nat.ble m 255) (c [m]) f) f = c [m]
  rw [show Nat.beq (kn .u8) 4 = true from rfl, bif_true, show Nat.ble m 255 = true by rw [Nat.ble_eq]; exact h, bif_true]
theorem wrap_u8 {m : Nat} (h : m ≤ 255) : IntKind.u8.wrap (m : Int) = m := wrap_nat .u8 m h
/-- one more put behind a list that may be none: the old block is let go -/
theorem appR_out {L : List Blk} {i j n esz bytes : Nat} {xs : List (List AV)} {y : List AV} {x z : X} {T : Tr AV} {wr ex : Bool} {cap : Nat} (hx : evX T x = some (outV (H.key i) esz n)) (hz : evX T z = some (.slice (H.key j) 0 1 esz ex cap))
    (hi : L[i]? = some (outB esz xs)) (hn : xs.length = n) (hj : L[j]? = some (.row wr esz [y])) (hb : okBig (n + 1) bytes = true) :
    appR esz bytes x z T (H.ext L) = .val (outV (H.key L.length) esz (n + 1)) (H.ext (L.set i .dead ++ [outB esz (xs ++ [y])])) := by
  have hxw : ∀ {f : R1} {c : AV → R1}, withX T x f c = c (outV (H.key i) esz n) := by intro f c; unfold withX; rw [hx]
  have hzw : ∀ {f : R1} {c : AV → R1}, withX T z f c = c (.slice (H.key j) 0 1 esz ex cap) := by intro f c; unfold withX; rw [hz]
  have hil := (List.getElem?_eq_some_iff.1 hi).1
  have hjl := (List.getElem?_eq_some_iff.1 hj).1
  have hb1 : (2 * (n + 1) + 192) * bytes ≤ 281474976710656 := by unfold okBig at hb; rwa [Nat.ble_eq] at hb
  unfold appR
  rw [hxw, hzw]
  cases xs with
  | nil =>
    obtain rfl : n = 0 := hn.symm
    have hset : L.set i .dead = L := by
      refine List.ext_getElem? fun m => ?_
      rw [List.getElem?_set]
      split
      · rename_i hm; subst hm; rw [hi]; first | rfl | (rw [if_pos hil]; rfl)
      · rfl
    simp only [go_sem, Heap.get_ext_key _ _ _ hjl, hj, List.drop_zero, List.take_succ_cons, List.take_zero, List.length_cons, List.length_nil, Nat.zero_mod, Nat.zero_div, Nat.reduceAdd, Nat.reduceSub, Nat.reduceMul, Nat.reduceDiv, Nat.reduceMod, Nat.reduceEqDiff, Nat.reduceLeDiff, Nat.reduceLT, reduceIte, hset, List.nil_append]
    rw [if_pos (by simpa using hb1)]
  | cons a xs =>
    subst hn
    rw [outV_pos (by simp)]
    simp only [go_sem, Heap.get_ext_key _ _ _ hjl, Heap.get_ext_key _ _ _ hil, hi, hj, List.drop_zero, List.take_succ_cons, List.take_zero, List.length_cons, List.length_nil, Nat.zero_mod, Nat.zero_div, Nat.reduceAdd, Nat.reduceSub, Nat.reduceMul, Nat.reduceDiv, Nat.reduceMod, Nat.reduceEqDiff, Nat.reduceLeDiff, Nat.reduceLT, reduceIte, List.take_length, List.cons_append]
    rw [if_pos (Nat.le_refl _), if_neg (by omega), if_pos (by simpa using hb1), Heap.setC_ext _ _ _ _ _ hil, Heap.addC_ext, List.length_set]
/-- an append whose operands are seen, left as it is -/
noncomputable def appQ (esz bytes : Nat) (a b : Option AV) (H : Heap) : R1 := match a, b with
  | some v, some w => appR esz bytes (.c v) (.c w) .lf H
  | _, _ => .fail
theorem appR_hide (esz bytes : Nat) (a b : K) (T : Tr AV) (H : Heap) : appR esz bytes (.t a) (.t b) T H = appQ esz bytes (T.get a) (T.get b) H := by
  unfold appR appQ
  simp only [withX_t, withX_c]
  cases T.get a <;> cases T.get b <;> rfl
theorem okBig_le {n bytes : Nat} (h : n ≤ 1000000000) (hb : bytes ≤ 1000) : okBig n bytes = true := by
  unfold okBig
  rw [Nat.ble_eq]
  exact Nat.le_trans (Nat.mul_le_mul (Nat.add_le_add (Nat.mul_le_mul (Nat.le_refl 2) h) (Nat.le_refl _)) hb) (by decide)
/-- the same, ahead of what is still to be done -/
theorem RW_app {E : FuncId → List AV → Heap → RC} {N : Nat} {k : List It} {Q : Ex → Tr AV → Heap → Prop} {d : Option K} {T' : Tr AV} {G : Heap} {L : List Blk} {esz bytes i j n : Nat} (xs : List (List AV)) (y : List AV) {wr ex : Bool} {cap : Nat}
    (hi : L[i]? = some (outB esz xs)) (hn : xs.length = n) (hj : L[j]? = some (.row wr esz [y])) (hb : okBig (n + 1) bytes = true)
    (h : WW P E N H k (putD T' d (outV (H.key L.length) esz (n + 1))) (H.ext (L.set i .dead ++ [outB esz (xs ++ [y])])) Q) : RW P E N H (appQ esz bytes (some (outV (H.key i) esz n)) (some (.slice (H.key j) 0 1 esz ex cap)) (H.ext L)) d k T' G Q := by
  show RW P E N H (appR esz bytes (.c (outV (H.key i) esz n)) (.c (.slice (H.key j) 0 1 esz ex cap)) .lf (H.ext L)) d k T' G Q
  rw [appR_out rfl rfl hi hn hj hb]
  exact h
/-- the blocks that are kept, one after the other -/
def WkB (l : List Blk) (ρ : K → K) : List Blk → List Nat → Prop
  | b :: bs, i :: σ => (b.live → l[i]? = some (b.ren ρ)) ∧ WkB l ρ bs σ
  | _, _ => True
@[go_sem] theorem WkB_nil (l : List Blk) (ρ : K → K) (σ : List Nat) : WkB l ρ [] σ = True := by cases σ <;> rfl
@[go_sem] theorem WkB_cons (l : List Blk) (ρ : K → K) (b bs i σ) : WkB l ρ (b :: bs) (i :: σ) = ((b.live → l[i]? = some (b.ren ρ)) ∧ WkB l ρ bs σ) := rfl
theorem WkB.all {l : List Blk} {ρ : K → K} : ∀ {bs : List Blk} {σ : List Nat}, WkB l ρ bs σ → ∀ p ∈ bs.zip σ, p.1.live → l[p.2]? = some (p.1.ren ρ)
  | [], _, _, p, hp => by simp at hp
  | _ :: _, [], _, p, hp => by simp at hp
  | b :: bs, i :: σ, h, p, hp => by
    rw [List.zip_cons_cons, List.mem_cons] at hp
    rcases hp with rfl | hp
    · exact h.1
    · exact WkB.all h.2 p hp
theorem Wk.of {H : Heap} {T : Tr AV} {l : List Blk} {ts : List (K × AV)} {l2 : List Blk} {σ : List Nat} (h1 : l2.length = σ.length) (h2 : σ.Nodup) (h3 : ∀ p ∈ ts, T.get p.1 = some (p.2.ren (rho H l.length σ))) (h4 : WkB l (rho H l.length σ) l2 σ) : Wk H T l ts l2 σ := .mk' h1 h2 h3 h4.all
end Go.Ev
/- A slice of one's own: nil, empty, or with elements; what makes one, what puts one in. -/


set_option linter.all false
namespace Go.Ev
variable {P : Program} {H : Heap}
/-- a slice of one's own: an empty one is nil, or has room for nothing -/
def zV (z : Bool) (k : K) (esz n : Nat) : AV := match n with
  | 0 => if z then .nils else .slice k 0 0 esz true 0
  | n + 1 => .slice k 0 (n + 1) esz false (n + 1)
def zB (z : Bool) (esz : Nat) (xs : List (List AV)) : Blk := match xs with
  | [] => if z then .dead else .row true esz []
  | x :: xs => .row true esz (x :: xs)
theorem zV_pos {z : Bool} {k : K} {esz n : Nat} (h : 0 < n) : zV z k esz n = .slice k 0 n esz false n := by
  cases n with
  | zero => exact absurd h (by decide)
  | succ n => rfl
theorem zB_pos {z : Bool} {esz : Nat} {xs : List (List AV)} (h : 0 < xs.length) : zB z esz xs = .row true esz xs := by
  cases xs with
  | nil => exact absurd h (by decide)
  | cons x xs => rfl
theorem zV_ren (ρ : K → K) (z : Bool) (k : K) (e n : Nat) : AV.ren ρ (zV z k e n) = zV z (ρ k) e n := by
  cases n with
  | zero => cases z <;> (show AV.ren ρ _ = _) <;> simp only [zV, AV.ren, if_true, Bool.false_eq_true, if_false]
  | succ n => show AV.ren ρ (.slice k 0 (n + 1) e false (n + 1)) = .slice (ρ k) 0 (n + 1) e false (n + 1); rw [AV.ren]
theorem zB_ren (ρ : K → K) {z : Bool} {e : Nat} {xs : List (List AV)} (h : xs.map (AV.rens ρ) = xs) : Blk.ren ρ (zB z e xs) = zB z e xs := by
  cases xs with
  | nil => cases z <;> rfl
  | cons x xs => show Blk.row true e ((x :: xs).map (AV.rens ρ)) = Blk.row true e (x :: xs); rw [h]
@[go_sem] theorem len_z (z : Bool) (k : K) (e n : Nat) (G : Heap) : asSliceC (zV z k e n) R1.fail (R1.val (AV.int IntKind.i64 0) G) (fun _ _ len _ _ _ => R1.val (AV.int IntKind.i64 (len : Int)) G) = R1.val (.int .i64 n) G := by
  cases n with
  | zero => cases z <;> rfl
  | succ n => rfl
theorem zB_arr {z : Bool} {L : List Blk} {esz i : Nat} {xs : List (List AV)} (h : L[i]? = some (zB z esz xs)) : Arr (H.ext L) esz (zV z (H.key i) esz xs.length) xs := by
  have hi := (List.getElem?_eq_some_iff.1 h).1
  cases xs with
  | nil =>
    cases z
    · refine .inr ⟨H.key i, 0, true, 0, rfl, ?_, fun e => absurd rfl e⟩
      rw [Heap.nx_ext, Heap.toNat_key, Heap.toNat_key]; omega
    · exact .inl ⟨rfl, rfl⟩
  | cons x xs =>
    refine .inr ⟨H.key i, 0, false, xs.length + 1, rfl, ?_, fun _ => ⟨0, true, x :: xs, by simp, ?_, by simp⟩⟩
    · rw [Heap.nx_ext, Heap.toNat_key, Heap.toNat_key]; omega
    · rw [Heap.get_ext_key _ _ _ hi, h]; rfl
@[go_sem] theorem bin_half {β : Type} (ek : EK) (pk : Option (List LK)) (lit : Bool) (a : Int) (f : β) (c : AV → β) : binV P ek pk lit .shr (.int .u64 a) (.int .u64 1) f c = c (.int .u64 (a.fdiv 2)) := bin_shr ek pk lit .u64 a f c .u64 1
@[go_sem] theorem max_int {β : Type} (k : IntKind) (a b : Int) (f : β) (c : AV → β) : mm2 true (.int k a) (.int k b) f c = c (.int k (max a b)) := by
  show bif' true (ltI a b fun z => bif' z (c (.int k b)) (c (.int k a))) (ltI b a fun z => bif' z (c (.int k b)) (c (.int k a))) = _
  rw [bif_true, ltI_eq, bif_eq]
  by_cases h : a < b
  · rw [decide_eq_true h, if_pos rfl, Int.max_eq_right (by omega)]
  · rw [decide_eq_false h, if_neg (by decide), Int.max_eq_left (by omega)]
theorem arr_zV {z : Bool} {L : List Blk} {esz i n : Nat} {xs : List (List AV)} (h : L[i]? = some (zB z esz xs)) (hn : xs.length = n) : Arr (H.ext L) esz (zV z (H.key i) esz n) xs := by
  subst hn
  exact zB_arr h
@[go_sem low] theorem readC_first {β : Type} (f : β) (esz : Nat) (rows : List (List AV)) (q n : Nat) (c : List AV → β) (hp : q < esz) (hn : q + n ≤ esz) : readC f esz rows q n c = optC rows[0]? f fun row => bif' (Bool.and (Nat.beq q 0) (Nat.beq n esz)) (c row) (takeC f n (dropL q row) c) := by
  have := readC_at f esz rows 0 q n c hp hn
  rwa [Nat.zero_mul, Nat.zero_add] at this
theorem bool_t {p : Prop} [Decidable p] (h : p) : AV.bool true = .bool (decide p) := by rw [decide_eq_true h]
theorem bool_f {p : Prop} [Decidable p] (h : ¬p) : AV.bool false = .bool (decide p) := by rw [decide_eq_false h]
theorem Arr.uniq {v : AV} {esz : Nat} {xs ys : List (List AV)} (hx : Arr H esz v xs) (hy : Arr H esz v ys) (he : 0 < esz) : xs = ys := by
  rcases hx with ⟨rfl, rfl⟩ | ⟨k, off, ex, cap, rfl, _, h1⟩
  · rcases hy with ⟨_, rfl⟩ | ⟨_, _, _, _, h, _⟩
    · rfl
    · cases h
  · rcases hy with ⟨h, _⟩ | ⟨k', off', ex', cap', h, _, h2⟩
    · cases h
    · injection h with e1 e2 e3 e4 e5 e6
      subst e1 e2
      by_cases hn : xs = []
      · subst hn
        exact (List.length_eq_zero_iff.1 (by rw [← e3]; rfl)).symm
      · have hn' : ys ≠ [] := by intro h; subst h; exact hn (List.length_eq_zero_iff.1 (by rw [e3]; rfl))
        obtain ⟨r, wr, rows, e7, e8, e9⟩ := h1 hn
        obtain ⟨r', wr', rows', f7, f8, f9⟩ := h2 hn'
        rw [e8] at f8; cases f8
        have : r = r' := by
          have := e7.symm.trans f7
          exact Nat.eq_of_mul_eq_mul_right he this
        subst this
        rw [← e9, ← f9, e3]
end Go.Ev
/- A contract of the kit's own, as a triple: what a function hands back that lets all old blocks alone. -/


set_option linter.all false
namespace Go.Ev
variable {P : Program} {φ : Phi} {H : Heap} {w u : World}
theorem WRel.grows (hw : WRel P φ H w) (hs : w.heap.size ≤ u.heap.size) (hk : ∀ b, b < w.heap.size → u.heap[b]? = w.heap[b]?) : WRel P φ H u := by
  refine ⟨⟨hw.dom, hw.top, fun k b a hg ha => BlkRel.congr (w := w) (hk _ (hw.size k a ha)) (hw.blk k b a hg ha), hw.inj, fun k a ha => Nat.lt_of_lt_of_le (hw.size k a ha) hs⟩, fun g v hm => ?_⟩
  obtain ⟨h1, h2⟩ := hw.rom g v hm
  refine ⟨?_, h2⟩
  have hlt := cell_in h1
  unfold World.cell? at h1 ⊢
  rw [hk g hlt]; exact h1
/-- old blocks as they were, new ones behind -/
structure Grows (w u : World) : Prop where
  size : w.heap.size ≤ u.heap.size
  old : ∀ b, b < w.heap.size → u.heap[b]? = w.heap[b]?
  os : u.os = w.os
  tape : u.tape = w.tape
  output : u.output = w.output
theorem Grows.refl (w : World) : Grows w w := ⟨Nat.le_refl _, fun _ _ => rfl, rfl, rfl, rfl⟩
theorem Grows.trans {w u v : World} (a : Grows w u) (b : Grows u v) : Grows w v := ⟨Nat.le_trans a.size b.size, fun x hx => by rw [b.old x (Nat.lt_of_lt_of_le hx a.size), a.old x hx], b.os.trans a.os, b.tape.trans a.tape, b.output.trans a.output⟩
theorem Grows.alloc (w : World) (o : Obj) : Grows w (w.alloc o) := by
  refine ⟨?_, fun b hb => ?_, rfl, rfl, rfl⟩
  · simp
  · show (w.heap.push o)[b]? = _
    rw [Array.getElem?_push, if_neg (by omega)]
theorem FnOk.of_calls {f : FuncId} {args : List AV} {v : AV}
    (h : ∀ φ w args', VRels P φ args args'.toList → WRel P φ H w → Calls P f args' w fun e u => (∃ v', e = .returned v' ∧ VRel P φ v v') ∧ Grows w u) : FnOk P f args H fun r G => r = v ∧ G = H := by
  intro φ w args' ha hw
  refine (h φ w args' ha hw).mono ?_
  rintro e u ⟨⟨v', rfl, hv⟩, hg⟩
  refine ⟨v, H, ⟨rfl, rfl⟩, φ, v', rfl, hv, hw.grows hg.size hg.old, ⟨fun _ _ => rfl, Nat.le_refl _, hg.size, fun b hb _ => hg.old b hb, fun _ _ _ => rfl, fun _ _ h => h, hg.os, hg.tape, hg.output⟩⟩
end Go.Ev
/- rules that all steps are reckoned with. -/


set_option linter.all false
attribute [go_sem_proc] Nat.reduceAdd Nat.reduceSub Nat.reduceMul Nat.reduceDiv Nat.reduceMod Nat.reduceEqDiff Nat.reduceLeDiff Nat.reduceLT Int.reduceLT Int.reduceLE Int.reduceEq Int.reduceToNat reduceIte reduceCtorEq
attribute [go_sem] List.length_nil List.map_nil List.length_cons List.map_cons List.replicate_succ List.replicate_zero List.set_cons_zero List.set_cons_succ List.take_succ_cons List.take_zero List.take_nil List.length_append List.map_append List.cons_append List.nil_append List.drop_succ_cons List.drop_zero List.append_nil List.getElem?_cons_zero List.getElem?_cons_succ eq_self true_implies not_true_eq_false not_false_eq_true false_implies and_true true_and decide_true decide_false Bool.not_true Bool.not_false
/- Code laid out by reckoning it where it is wanted. -/

set_option linter.all false
set_option maxRecDepth 100000
namespace Go.Ev
open K
theorem K.inj : ∀ {a b : K}, a.toNat = b.toNat → a = b := by
  intro a
  induction a with
  | z => intro b h; cases b <;> simp [K.toNat] at h ⊢ <;> (have := K.toNat_pos ‹K›; omega)
  | o a ih => intro b h; cases b <;> simp [K.toNat] at h ⊢ <;> first | exact ih (by omega) | (have := K.toNat_pos a; omega) | omega
  | i a ih => intro b h; cases b <;> simp [K.toNat] at h ⊢ <;> first | exact ih (by omega) | (have := K.toNat_pos a; omega) | omega
theorem keyOf_o {n : Nat} (h : n % 2 = 1) : keyOf n = (keyOf ((n - 1) / 2)).o := by
  apply K.inj; rw [toNat_keyOf]; show _ = 2 * (keyOf ((n - 1) / 2)).toNat; rw [toNat_keyOf]; omega
theorem keyOf_i {n : Nat} (h : n % 2 = 0) (h0 : ¬ n = 0) : keyOf n = (keyOf (n / 2 - 1)).i := by
  apply K.inj; rw [toNat_keyOf]; show _ = 2 * (keyOf (n / 2 - 1)).toNat + 1; rw [toNat_keyOf]; omega
theorem keyOf_z : keyOf 0 = z := rfl
def CCz (P : Program) (f : Func) (n : Nat) (o : Option CC) : Prop := ∀ c, o = some c → CCok P f n c
theorem CCz.go {P : Program} {f : Func} {n : Nat} {c : CC} (h : CCz P f n (match f.body with | some code => comp P n code | none => none) → CCz P f n (some c)) : CCok P f n c := h (fun _ h => h) _ rfl
/-- code, reckoned where it stands -/
noncomputable def mkC (P : Program) (f : Func) (n : Nat) {c : CC} (h : CCok P f n c := by
  apply CCz.go
  intro h
  conv at h => arg 4; whnf
  simp only [go_sem, Array.reduceGetElem, Nat.reduceSucc, Option.map_some, Option.map_none, cloD, quietOp, allocOp, bif_true, bif_false, isK, Bool.or_true, Bool.or_false, Bool.true_or, Bool.false_or, List.map_cons, List.map_nil, UInt8.reduceToNat, List.append_eq, List.cons_append, List.nil_append] at h
  repeat (conv at h => pattern (lnOf _ _); whnf)
  repeat (conv at h => pattern (ekOf _ _); whnf)
  repeat (conv at h => pattern (plainK _ _); whnf)
  repeat (conv at h => pattern (cvOf _ _ _); whnf)
  repeat (conv at h => pattern (isArr1 _ _); whnf)
  repeat (conv at h => pattern (TypeInfo.size _); whnf)
  repeat (conv at h => pattern (TypeInfo.bytes _); whnf)
  repeat (conv at h => pattern (Field.offset _); whnf)
  simp only [go_sem, Array.reduceGetElem, Nat.reduceSucc, Option.map_some, Option.map_none, cloD, quietOp, allocOp, bif_true, bif_false, isK, Bool.or_true, Bool.or_false, Bool.true_or, Bool.false_or, List.map_cons, List.map_nil, UInt8.reduceToNat, List.append_eq, List.cons_append, List.nil_append, keyOf_z, keyOf_o, keyOf_i, Nat.reduceMod, Nat.reduceDiv, Nat.reduceSub, Nat.reduceEqDiff, not_false_eq_true] at h
  exact h) : CC := c
@[go_sem] theorem mkC_eq {P : Program} {f : Func} {n : Nat} {c : CC} (h : CCok P f n c) : mkC P f n h = c := rfl
theorem mkC_ok {P : Program} {f : Func} {n : Nat} {c : CC} (h : CCok P f n c) : CCok P f n (mkC P f n h) := h
end Go.Ev
/- Kinds of fields of types whose values are compared. -/


set_option linter.all false
set_option maxRecDepth 100000
namespace Go.Proofs
open Go Go.Ev K
@[go_sem] theorem pk26 : plainK Tryz.prog 26 = some [LK.str, LK.str] := by kernel_rfl
@[go_sem] theorem pk162 : plainK Tryz.prog 162 = some [LK.int, LK.int] := by kernel_rfl
@[go_sem] theorem pk104 : plainK Tryz.prog 104 = some [LK.str, LK.str, LK.int, LK.bool, LK.int] := by kernel_rfl
@[go_sem] theorem pk69 : plainK Tryz.prog 69 = some [LK.str, LK.int, LK.str, LK.bool] := by kernel_rfl
@[go_sem] theorem pk196 : plainK Tryz.prog 196 = some [LK.str, LK.str, LK.bool] := by kernel_rfl
@[go_sem] theorem pk171 : plainK Tryz.prog 171 = some [LK.str, LK.str, LK.int] := by kernel_rfl
@[go_sem] theorem pk67 : plainK Tryz.prog 67 = some [LK.str, LK.int] := by kernel_rfl
end Go.Proofs
/- The laid-out code of the functions that are walked. Printed by a program. -/

set_option linter.all false
set_option maxRecDepth 100000
namespace Go.Proofs
open Go Go.Ev K
@[go_sem] theorem call64 (a H) : callC Tryz.prog 64 a H = .call 64 a := callC_ok (by kernel_rfl) a H
noncomputable def C56 := mkC Tryz.prog Tryz.f56 28
theorem C56ok : CCok Tryz.prog Tryz.f56 28 C56 := mkC_ok _
@[go_sem] theorem call56 (a H) : callC Tryz.prog 56 a H = .call 56 a := callC_ok (by kernel_rfl) a H
theorem R56ok : resKs Tryz.prog Tryz.f56.results.toList = some [(RK.tmp z.o.i)] := by kernel_rfl

noncomputable def C112 := mkC Tryz.prog Tryz.f112 23
theorem C112ok : CCok Tryz.prog Tryz.f112 23 C112 := mkC_ok _
@[go_sem] theorem call112 (a H) : callC Tryz.prog 112 a H = .call 112 a := callC_ok (by kernel_rfl) a H
theorem R112ok : resKs Tryz.prog Tryz.f112.results.toList = some [(RK.tmp z.i)] := by kernel_rfl

noncomputable def C114 := mkC Tryz.prog Tryz.f114 8
theorem C114ok : CCok Tryz.prog Tryz.f114 8 C114 := mkC_ok _
@[go_sem] theorem call114 (a H) : callC Tryz.prog 114 a H = .call 114 a := callC_ok (by kernel_rfl) a H
theorem R114ok : resKs Tryz.prog Tryz.f114.results.toList = some [(RK.tmp z.i)] := by kernel_rfl

noncomputable def C24 := mkC Tryz.prog Tryz.f24 53
theorem C24ok : CCok Tryz.prog Tryz.f24 53 C24 := mkC_ok _
@[go_sem] theorem call24 (a H) : callC Tryz.prog 24 a H = .call 24 a := callC_ok (by kernel_rfl) a H
theorem R24ok : resKs Tryz.prog Tryz.f24.results.toList = some [(RK.tmp z.i)] := by kernel_rfl

noncomputable def C57 := mkC Tryz.prog Tryz.f57 23
theorem C57ok : CCok Tryz.prog Tryz.f57 23 C57 := mkC_ok _
@[go_sem] theorem call57 (a H) : callC Tryz.prog 57 a H = .call 57 a := callC_ok (by kernel_rfl) a H
theorem R57ok : resKs Tryz.prog Tryz.f57.results.toList = some [(RK.tmp z.i)] := by kernel_rfl

noncomputable def C117 := mkC Tryz.prog Tryz.f117 10
theorem C117ok : CCok Tryz.prog Tryz.f117 10 C117 := mkC_ok _
@[go_sem] theorem call117 (a H) : callC Tryz.prog 117 a H = .call 117 a := callC_ok (by kernel_rfl) a H
theorem R117ok : resKs Tryz.prog Tryz.f117.results.toList = some [(RK.tmp z.i)] := by kernel_rfl

noncomputable def C124 := mkC Tryz.prog Tryz.f124 47
theorem C124ok : CCok Tryz.prog Tryz.f124 47 C124 := mkC_ok _
@[go_sem] theorem call124 (a H) : callC Tryz.prog 124 a H = .call 124 a := callC_ok (by kernel_rfl) a H
theorem R124ok : resKs Tryz.prog Tryz.f124.results.toList = some [(RK.tmp z.i)] := by kernel_rfl

@[go_sem] theorem call106 (a H) : callC Tryz.prog 106 a H = .call 106 a := callC_ok (by kernel_rfl) a H
@[go_sem] theorem call107 (a H) : callC Tryz.prog 107 a H = .call 107 a := callC_ok (by kernel_rfl) a H
@[go_sem] theorem call108 (a H) : callC Tryz.prog 108 a H = .call 108 a := callC_ok (by kernel_rfl) a H
@[go_sem] theorem call109 (a H) : callC Tryz.prog 109 a H = .call 109 a := callC_ok (by kernel_rfl) a H
noncomputable def C55 := mkC Tryz.prog Tryz.f55 10
theorem C55ok : CCok Tryz.prog Tryz.f55 10 C55 := mkC_ok _
@[go_sem] theorem call55 (a H) : callC Tryz.prog 55 a H = .call 55 a := callC_ok (by kernel_rfl) a H
theorem R55ok : resKs Tryz.prog Tryz.f55.results.toList = some [(RK.tmp z.o.o)] := by kernel_rfl

noncomputable def C58 := mkC Tryz.prog Tryz.f58 9
theorem C58ok : CCok Tryz.prog Tryz.f58 9 C58 := mkC_ok _
@[go_sem] theorem call58 (a H) : callC Tryz.prog 58 a H = .call 58 a := callC_ok (by kernel_rfl) a H
theorem R58ok : resKs Tryz.prog Tryz.f58.results.toList = some [(RK.tmp z.o.i)] := by kernel_rfl

noncomputable def C59 := mkC Tryz.prog Tryz.f59 37
theorem C59ok : CCok Tryz.prog Tryz.f59 37 C59 := mkC_ok _
@[go_sem] theorem call59 (a H) : callC Tryz.prog 59 a H = .call 59 a := callC_ok (by kernel_rfl) a H
theorem R59ok : resKs Tryz.prog Tryz.f59.results.toList = some [(RK.tmp z.o.i)] := by kernel_rfl

noncomputable def C60 := mkC Tryz.prog Tryz.f60 51
theorem C60ok : CCok Tryz.prog Tryz.f60 51 C60 := mkC_ok _
@[go_sem] theorem call60 (a H) : callC Tryz.prog 60 a H = .call 60 a := callC_ok (by kernel_rfl) a H
theorem R60ok : resKs Tryz.prog Tryz.f60.results.toList = some [(RK.tmp z.i)] := by kernel_rfl

noncomputable def C171 := mkC Tryz.prog Tryz.f171 40
theorem C171ok : CCok Tryz.prog Tryz.f171 40 C171 := mkC_ok _
@[go_sem] theorem call171 (a H) : callC Tryz.prog 171 a H = .call 171 a := callC_ok (by kernel_rfl) a H
theorem R171ok : resKs Tryz.prog Tryz.f171.results.toList = some [(RK.tmp z.i)] := by kernel_rfl

noncomputable def C118 := mkC Tryz.prog Tryz.f118 19
theorem C118ok : CCok Tryz.prog Tryz.f118 19 C118 := mkC_ok _
@[go_sem] theorem call118 (a H) : callC Tryz.prog 118 a H = .call 118 a := callC_ok (by kernel_rfl) a H
theorem R118ok : resKs Tryz.prog Tryz.f118.results.toList = some [(RK.tmp z.o.i)] := by kernel_rfl

noncomputable def C119 := mkC Tryz.prog Tryz.f119 31
theorem C119ok : CCok Tryz.prog Tryz.f119 31 C119 := mkC_ok _
@[go_sem] theorem call119 (a H) : callC Tryz.prog 119 a H = .call 119 a := callC_ok (by kernel_rfl) a H
theorem R119ok : resKs Tryz.prog Tryz.f119.results.toList = some [(RK.tmp z.i)] := by kernel_rfl

noncomputable def C120 := mkC Tryz.prog Tryz.f120 22
theorem C120ok : CCok Tryz.prog Tryz.f120 22 C120 := mkC_ok _
@[go_sem] theorem call120 (a H) : callC Tryz.prog 120 a H = .call 120 a := callC_ok (by kernel_rfl) a H
theorem R120ok : resKs Tryz.prog Tryz.f120.results.toList = some [(RK.cell z.o.i true 5), (RK.tmp z.i.o)] := by kernel_rfl

noncomputable def C121 := mkC Tryz.prog Tryz.f121 12
theorem C121ok : CCok Tryz.prog Tryz.f121 12 C121 := mkC_ok _
@[go_sem] theorem call121 (a H) : callC Tryz.prog 121 a H = .call 121 a := callC_ok (by kernel_rfl) a H
theorem R121ok : resKs Tryz.prog Tryz.f121.results.toList = some [(RK.tmp z.i)] := by kernel_rfl

noncomputable def C122 := mkC Tryz.prog Tryz.f122 8
theorem C122ok : CCok Tryz.prog Tryz.f122 8 C122 := mkC_ok _
@[go_sem] theorem call122 (a H) : callC Tryz.prog 122 a H = .call 122 a := callC_ok (by kernel_rfl) a H
theorem R122ok : resKs Tryz.prog Tryz.f122.results.toList = some [(RK.tmp z.o.o)] := by kernel_rfl

noncomputable def C123 := mkC Tryz.prog Tryz.f123 54
theorem C123ok : CCok Tryz.prog Tryz.f123 54 C123 := mkC_ok _
@[go_sem] theorem call123 (a H) : callC Tryz.prog 123 a H = .call 123 a := callC_ok (by kernel_rfl) a H
theorem R123ok : resKs Tryz.prog Tryz.f123.results.toList = some [(RK.tmp z.o.i)] := by kernel_rfl

end Go.Proofs
/- The laid-out code of the functions that are walked. Printed by a program. -/

set_option linter.all false
set_option maxRecDepth 100000
namespace Go.Proofs
open Go Go.Ev K
@[go_sem] theorem call183 (a H) : callC Tryz.prog 183 a H = .call 183 a := callC_ok (by kernel_rfl) a H
noncomputable def C211 := mkC Tryz.prog Tryz.f211 23
theorem C211ok : CCok Tryz.prog Tryz.f211 23 C211 := mkC_ok _
@[go_sem] theorem call211 (a H) : callC Tryz.prog 211 a H = .call 211 a := callC_ok (by kernel_rfl) a H
theorem R211ok : resKs Tryz.prog Tryz.f211.results.toList = some [(RK.tmp z.i)] := by kernel_rfl

noncomputable def C212 := mkC Tryz.prog Tryz.f212 9
theorem C212ok : CCok Tryz.prog Tryz.f212 9 C212 := mkC_ok _
@[go_sem] theorem call212 (a H) : callC Tryz.prog 212 a H = .call 212 a := callC_ok (by kernel_rfl) a H
theorem R212ok : resKs Tryz.prog Tryz.f212.results.toList = some [(RK.tmp z.o.i)] := by kernel_rfl

noncomputable def C169 := mkC Tryz.prog Tryz.f169 24
theorem C169ok : CCok Tryz.prog Tryz.f169 24 C169 := mkC_ok _
@[go_sem] theorem call169 (a H) : callC Tryz.prog 169 a H = .call 169 a := callC_ok (by kernel_rfl) a H
theorem R169ok : resKs Tryz.prog Tryz.f169.results.toList = some [(RK.tmp z.i)] := by kernel_rfl

noncomputable def C170 := mkC Tryz.prog Tryz.f170 31
theorem C170ok : CCok Tryz.prog Tryz.f170 31 C170 := mkC_ok _
@[go_sem] theorem call170 (a H) : callC Tryz.prog 170 a H = .call 170 a := callC_ok (by kernel_rfl) a H
theorem R170ok : resKs Tryz.prog Tryz.f170.results.toList = some [(RK.tmp z.o.o.i)] := by kernel_rfl

noncomputable def C254 := mkC Tryz.prog Tryz.f254 19
theorem C254ok : CCok Tryz.prog Tryz.f254 19 C254 := mkC_ok _
@[go_sem] theorem call254 (a H) : callC Tryz.prog 254 a H = .call 254 a := callC_ok (by kernel_rfl) a H
theorem R254ok : resKs Tryz.prog Tryz.f254.results.toList = some [(RK.tmp z.o.i)] := by kernel_rfl

@[go_sem] theorem call275 (a H) : callC Tryz.prog 275 a H = .call 275 a := callC_ok (by kernel_rfl) a H
end Go.Proofs
/- Small functions of keys, spans, cells, walked. -/

set_option linter.all false
set_option maxRecDepth 100000
namespace Go.Proofs
open Go Go.Ev
variable {H : Heap}
theorem bool_t {p : Prop} [Decidable p] (h : p) : AV.bool true = .bool (decide p) := by rw [decide_eq_true h]
theorem bool_f {p : Prop} [Decidable p] (h : ¬p) : AV.bool false = .bool (decide p) := by rw [decide_eq_false h]
def isKey (k : List Nat) : Prop := ¬ k = [] ∧ (k.length : Int) ≤ 8
instance (k : List Nat) : Decidable (isKey k) := inferInstanceAs (Decidable (_ ∧ _))
theorem f117_ok (k : List Nat) : FnOk Tryz.prog 117 [.str k] H fun v G => v = .bool (decide (isKey k)) ∧ G = H := by
  refine FnOk.of_WW Tryz.func117 rfl C117ok R117ok E0 good_E0 ?_
  simp only [go_sem, C117]
  repeat' (first | apply And.intro | intro _)
  all_goals first | exact Heap.ext_nil H | simp_all [isKey]
def isSpan (f t : List Nat) : Prop := (f.length : Int) ≤ 8 ∧ (t.length : Int) ≤ 8 ∧ (t = [] ∨ ltS f t)
noncomputable instance (f t : List Nat) : Decidable (isSpan f t) := inferInstanceAs (Decidable (_ ∧ _))
theorem f57_ok (f t : List Nat) : FnOk Tryz.prog 57 [.agg [.str f, .str t]] H fun v G => v = .bool (decide (isSpan f t)) ∧ G = H := by
  refine FnOk.drop (R := fun v => v = .bool (decide (isSpan f t))) ?_ (by rintro v rfl ρ; rw [AV.ren])
  refine FnOk.of_WW Tryz.func57 rfl C57ok R57ok E0 good_E0 ?_
  simp only [go_sem, C57, not_leS]
  repeat' (first | apply And.intro | intro _)
  all_goals first | exact ⟨_, rfl⟩ | exact bool_t (by unfold isSpan; grind) | exact bool_f (by unfold isSpan; grind)
def mayBe (k v : List Nat) (n : Int) (d : Bool) : Prop := isKey k ∧ (v.length : Int) ≤ 12 ∧ (d = true → v = []) ∧ 1 ≤ n ∧ n ≤ 1000000000000
instance (k v : List Nat) (n : Int) (d : Bool) : Decidable (mayBe k v n d) := inferInstanceAs (Decidable (_ ∧ _))
theorem f170_ok (f t : List Nat) (v : Int) (d : Bool) : FnOk Tryz.prog 170 [.str f, .str t, .int .i64 v, .bool d] H fun r G => r = .bool (decide (mayBe f t v d)) ∧ G = H := by
  refine FnOk.of_WW Tryz.func170 rfl C170ok R170ok E0 good_E0 ?_
  cases d
  all_goals simp only [go_sem, C170]
  all_goals refine CL.bool (f117_ok _) (fun h1 => ?_) (fun h1 => ?_)
  all_goals simp only [go_sem]
  all_goals repeat' (first | apply And.intro | intro _)
  all_goals first | exact Heap.ext_nil H | exact bool_t (by unfold mayBe; grind) | exact bool_f (by unfold mayBe; grind)

structure Cell where
  key : List Nat
  value : List Nat
  ver : Int
  del : Bool
  floor : Int
  deriving DecidableEq
def Cell.enc (c : Cell) : List AV := [.str c.key, .str c.value, .int .i64 c.ver, .bool c.del, .int .i64 c.floor]
@[go_sem] theorem Cell.rens (ρ : K → K) (c : Cell) : AV.rens ρ c.enc = c.enc := by simp only [Cell.enc, AV.rens, AV.ren]
theorem Cell.map_rens (ρ : K → K) (l : List Cell) : (l.map Cell.enc).map (AV.rens ρ) = l.map Cell.enc := by
  rw [List.map_map]; exact List.map_congr_left fun c _ => Cell.rens ρ c
def has (f t k : List Nat) : Prop := isSpan f t ∧ isKey k ∧ ¬ ltS k f ∧ (t = [] ∨ ltS k t)
noncomputable instance (f t k : List Nat) : Decidable (has f t k) := inferInstanceAs (Decidable (_ ∧ _))
theorem f56_ok (f t k : List Nat) : FnOk Tryz.prog 56 [.agg [.str f, .str t], .str k] H fun v G => v = .bool (decide (has f t k)) ∧ G = H := by
  refine FnOk.drop (R := fun v => v = .bool (decide (has f t k))) ?_ (by rintro v rfl ρ; rw [AV.ren])
  refine FnOk.of_WW Tryz.func56 rfl C56ok R56ok E0 good_E0 ?_
  simp only [go_sem, C56]
  refine CL.bool (f57_ok _ _) (fun h1 => ?_) (fun h1 => ?_)
  all_goals simp only [go_sem]
  · refine CL.bool (f117_ok _) (fun h2 => ?_) (fun h2 => ?_)
    all_goals simp only [go_sem]
    all_goals repeat' (first | apply And.intro | intro _)
    all_goals first | exact ⟨_, rfl⟩ | exact bool_t (by unfold has; grind) | exact bool_f (by unfold has; grind)
  · exact ⟨bool_f (by unfold has; grind), _, rfl⟩
def cellIs (c : Cell) : Prop := mayBe c.key c.value c.ver c.del ∧ 0 ≤ c.floor ∧ c.floor ≤ c.ver
instance (c : Cell) : Decidable (cellIs c) := inferInstanceAs (Decidable (_ ∧ _))
theorem f169_ok (c : Cell) : FnOk Tryz.prog 169 [.agg c.enc] H fun v G => v = .bool (decide (cellIs c)) ∧ G = H := by
  refine FnOk.drop (R := fun v => v = .bool (decide (cellIs c))) ?_ (by rintro v rfl ρ; rw [AV.ren])
  refine FnOk.of_WW Tryz.func169 rfl C169ok R169ok E0 good_E0 ?_
  simp only [go_sem, C169, Cell.enc]
  refine CL.bool (f170_ok _ _ _ _) (fun h1 => ?_) (fun h1 => ?_)
  all_goals simp only [go_sem]
  all_goals repeat' (first | apply And.intro | intro _)
  all_goals first | exact ⟨_, rfl⟩ | exact bool_t (by unfold cellIs; grind) | exact bool_f (by unfold cellIs; grind)
end Go.Proofs
/- index: Get, walked. -/

set_option linter.all false
set_option maxRecDepth 100000
namespace Go.Proofs
open Go Go.Ev
variable {H : Heap}
def getL (l : List Cell) (key : List Nat) : Cell × Bool := match l with
  | [] => (⟨key, [], 0, false, 0⟩, false)
  | c :: l => if c.key = key then (c, true) else getL l key
theorem getL_at {key : List Nat} : ∀ {l : List Cell} {i : Nat} {c : Cell}, (∀ x ∈ l.take i, x.key ≠ key) → l[i]? = some c → c.key = key → getL l key = (c, true)
  | [], i, c, _, h, _ => by simp at h
  | x :: l, 0, c, _, h, hc => by simp at h; subst h; rw [getL, if_pos hc]
  | x :: l, i + 1, c, hn, h, hc => by
    rw [getL, if_neg (hn x (by simp))]
    exact getL_at (i := i) (fun y hy => hn y (by simp [hy])) (by simpa using h) hc
theorem getL_none {key : List Nat} : ∀ {l : List Cell}, (∀ x ∈ l, x.key ≠ key) → getL l key = (⟨key, [], 0, false, 0⟩, false)
  | [], _ => rfl
  | x :: l, h => by rw [getL, if_neg (h x (by simp))]; exact getL_none fun y hy => h y (by simp [hy])
theorem take_all {α : Type} {l : List α} {i : Nat} (h : l.length ≤ i) : l.take i = l := List.take_of_length_le h
theorem take_next {α : Type} {l : List α} {i : Nat} {c : α} (h : l[i]? = some c) : l.take (i + 1) = l.take i ++ [c] := by
  rw [List.take_succ, h]; rfl


theorem f120_ok {v : AV} {l : List Cell} (hA : Arr H 5 v (l.map Cell.enc)) (hl : l.length < 4294967296) (key : List Nat) :
    FnOk Tryz.prog 120 [v, .str key] H fun r G => r = .tup [.agg (getL l key).1.enc, .bool (getL l key).2] ∧ G = H := by
  refine FnOk.assume fun hok => ?_
  refine FnOk.drop (R := fun r => r = .tup [.agg (getL l key).1.enc, .bool (getL l key).2]) ?_ (by rintro v rfl ρ; simp only [AV.ren, AV.rens, Cell.rens])
  refine FnOk.of_WW Tryz.func120 rfl C120ok R120ok E0 good_E0 ?_
  rcases hA.forms with ⟨rfl, hnil⟩ | ⟨k, off, ex, cap, rfl, hrho⟩
  · have hn0 : l.length = 0 := by simpa using hnil
    simp only [go_sem, C120]
    refine LL.st good_E0 (fun i : Nat => l.length - i) (fun i => i ≤ l.length ∧ ∀ x ∈ l.take i, x.key ≠ key)
      (fun i => [(.o .z, .str key), (.i (.o .z), .ptr (H.key 0) 0), (.i (.o (.o .z)), .nils), (.o (.i (.o .z)), .int .i64 l.length), (.i (.i (.o .z)), .int .i64 i)])
      (fun i => [.row true 5 [[.str [], .str [], .int .i64 0, .bool false, .int .i64 0]]]) ?_ 0 (σ := [0]) (Wk.mk' rfl (by decide) (by simp only [go_sem, List.length_map, hn0]) (by simp only [go_sem, List.length_map, hn0])) ⟨by omega, by simp⟩
    rintro i ⟨hi, hno⟩
    by_cases hlt : i < l.length
    · exact absurd hlt (by omega)
    · have hci : ¬ (i : Int) < (l.length : Int) := by omega
      have := getL_none (l := l) (key := key) (by rw [take_all (by omega)] at hno; exact hno)
      simp only [go_sem, hci]
      rw [this]
      exact ⟨rfl, _, rfl⟩
  · have hn0 : True := trivial
    simp only [go_sem, C120]
    refine LL.st good_E0 (fun i : Nat => l.length - i) (fun i => i ≤ l.length ∧ ∀ x ∈ l.take i, x.key ≠ key)
      (fun i => [(.o .z, .str key), (.i (.o .z), .ptr (H.key 0) 0), (.i (.o (.o .z)), .slice k off (l.map Cell.enc).length 5 ex cap), (.o (.i (.o .z)), .int .i64 l.length), (.i (.i (.o .z)), .int .i64 i)])
      (fun i => [.row true 5 [[.str [], .str [], .int .i64 0, .bool false, .int .i64 0]]]) ?_ 0 (σ := [0]) (Wk.mk' rfl (by decide) (by simp only [go_sem, List.length_map, hrho]) (by simp only [go_sem, List.length_map, hrho])) ⟨by omega, by simp⟩
    rintro i ⟨hi, hno⟩
    by_cases hlt : i < l.length
    · obtain ⟨kk, r, ex', cap', wr, rows, hv, hk, hg, _, hat⟩ := hA.pick (j := i) (by simpa using hlt)
      have hrow := hat i (by simpa using hlt)
      have hgo := Heap.get_ext_old hok hg
      have hw := wrap_succ (n := i) (by omega)
      have hci : (i : Int) < (l.length : Int) := by omega
      have hsi : i + 1 ≤ l.length := by omega
      cases hv
      simp only [go_sem, List.length_map, hw, hgo, hrow, hci, hsi, List.getElem?_eq_getElem hlt, Cell.enc]
      have hget : l[i]? = some l[i] := List.getElem?_eq_getElem hlt
      refine ⟨fun he => ?_, fun he => ?_⟩
      · have := getL_at hno hget he
        rw [this]
        exact ⟨rfl, _, rfl⟩
      · refine ⟨i + 1, by show l.length - (i + 1) < l.length - i; omega, ⟨by omega, ?_⟩, _, [0], rfl, Wk.mk' rfl (by decide) (by simp only [go_sem, hrho, List.length_map]) (by simp only [go_sem, hrho, List.length_map])⟩
        rw [take_next hget]
        intro x hx
        rcases List.mem_append.1 hx with h | h
        · exact hno x h
        · simp only [List.mem_singleton] at h; subst h; exact he
    · have hci : ¬ (i : Int) < (l.length : Int) := by omega
      have := getL_none (l := l) (key := key) (by rw [take_all (by omega)] at hno; exact hno)
      simp only [go_sem, hci]
      rw [this]
      exact ⟨rfl, _, rfl⟩
end Go.Proofs
/- index: loops that only read, walked. -/

set_option linter.all false
set_option maxRecDepth 100000
namespace Go.Proofs
open Go Go.Ev
variable {H : Heap}

def few (l : List Cell) : Prop := (∀ c ∈ l, (c.key.length : Int) ≤ 20 ∧ (c.value.length : Int) ≤ 40) ∧ (l.length : Int) ≤ 30
instance (l : List Cell) : Decidable (few l) := inferInstanceAs (Decidable (_ ∧ _))

end Go.Proofs
/- index: the order of cells, walked. -/

set_option linter.all false
set_option maxRecDepth 100000
namespace Go.Proofs
open Go Go.Ev
variable {H : Heap}

def okAt (l : List Cell) (j : Nat) : Prop := ∃ c, l[j]? = some c ∧ cellIs c ∧ (0 < j → ∃ d, l[j - 1]? = some d ∧ ltS d.key c.key)
def isIdx (l : List Cell) : Prop := ∀ j, j < l.length → okAt l j
noncomputable instance (l : List Cell) : Decidable (isIdx l) := Classical.propDecidable _

theorem f119_ok {v : AV} {l : List Cell} (hA : Arr H 5 v (l.map Cell.enc)) (hl : l.length < 4294967296) :
    FnOk Tryz.prog 119 [v] H fun r G => r = .bool (decide (isIdx l)) ∧ G = H := by
  refine FnOk.assume fun hok => ?_
  refine FnOk.drop (R := fun r => r = .bool (decide (isIdx l))) ?_ (by rintro v rfl ρ; rw [AV.ren])
  refine FnOk.of_WW Tryz.func119 rfl C119ok R119ok E0 good_E0 ?_
  rcases hA.forms with ⟨rfl, hnil⟩ | ⟨k, off, ex, cap, rfl, hrho⟩
  · have hn0 : l.length = 0 := by simpa using hnil
    simp only [go_sem, C119]
    refine LL.st good_E0 (fun i : Nat => l.length - i) (fun i => i ≤ l.length ∧ ∀ j, j < i → okAt l j)
      (fun i => [(.z, .nils), ((.o (.i .z)), .nils), ((.i (.i .z)), .int .i64 l.length), ((.o (.o (.o .z))), .int .i64 i)])
      (fun i => []) ?_ 0 (σ := []) (Wk.mk' rfl (by decide) (by simp only [go_sem, List.length_map, hn0]) (by simp only [go_sem, List.length_map, hn0])) ⟨by omega, by simp⟩
    rintro i ⟨hi, hno⟩
    by_cases hlt : i < l.length
    · exact absurd hlt (by omega)
    · have hci : ¬ (i : Int) < (l.length : Int) := by omega
      simp only [go_sem, List.length_map, hci, show ¬ (i : Int) < 0 by omega]
      exact ⟨bool_t fun j hj => hno j (by omega), _, rfl⟩
  · simp only [go_sem, C119]
    refine LL.st good_E0 (fun i : Nat => l.length - i) (fun i => i ≤ l.length ∧ ∀ j, j < i → okAt l j)
      (fun i => [(.z, .slice k off (l.map Cell.enc).length 5 ex cap), ((.o (.i .z)), .slice k off (l.map Cell.enc).length 5 ex cap), ((.i (.i .z)), .int .i64 l.length), ((.o (.o (.o .z))), .int .i64 i)])
      (fun i => []) ?_ 0 (σ := []) (Wk.mk' rfl (by decide) (by simp only [go_sem, List.length_map, hrho]) (by simp only [go_sem, List.length_map, hrho])) ⟨by omega, by simp⟩
    rintro i ⟨hi, hno⟩
    by_cases hlt : i < l.length
    · obtain ⟨kk, r, ex', cap', wr, rows, hv, hk, hg, _, hat⟩ := hA.pick (j := i) (by simpa using hlt)
      have hrow := hat i (by simpa using hlt)
      have hgo := Heap.get_ext_old hok hg
      have hw := wrap_succ (n := i) (by omega)
      have hci : (i : Int) < (l.length : Int) := by omega
      have hsi : i + 1 ≤ l.length := by omega
      have hget : l[i]? = some l[i] := List.getElem?_eq_getElem hlt
      cases hv
      have hbad : ¬ okAt l i → ¬ isIdx l := fun h g => h (g i hlt)
      simp only [go_sem, List.length_map, hw, hgo, hrow, hci, hsi, List.getElem?_eq_getElem hlt, Cell.enc]
      refine CL.bool (f169_ok l[i]) (fun h1 => ?_) (fun h1 => ?_)
      · rcases Nat.eq_zero_or_pos i with h0 | h0
        · subst h0
          have hw0 : IntKind.i64.wrap (0 + 1) = ((0 + 1 : Nat) : Int) := rfl
          simp only [go_sem, List.length_map, hw, hgo, hrow, hci, hsi, List.getElem?_eq_getElem hlt, Cell.enc, Int.lt_irrefl, Int.ofNat_zero, hw0]
          refine ⟨0 + 1, by show l.length - (0 + 1) < l.length - 0; omega, ?_, _, [], rfl, Wk.mk' rfl (by decide) (by simp only [go_sem, hrho, List.length_map]) (by simp only [go_sem, hrho, List.length_map])⟩
          refine ⟨by omega, fun j hj => ?_⟩
          obtain rfl : j = 0 := by omega
          exact ⟨_, hget, h1, fun h => absurd h (by omega)⟩
        · obtain ⟨j, rfl⟩ : ∃ j, i = j + 1 := ⟨i - 1, by omega⟩
          have hrow' := hat j (by simp only [List.length_map]; omega)
          have hp : IntKind.i64.wrap (((j + 1 : Nat) : Int) - 1) = (j : Int) := by rw [wrap_i64 (by omega) (by omega)]; omega
          have hpos : (0 : Int) < ((j + 1 : Nat) : Int) := by omega
          have hltj : (j : Int) < (l.length : Int) := by omega
          have hsj : j + 1 ≤ l.length := by omega
          have hgetj : l[j]? = some l[j] := List.getElem?_eq_getElem (by omega)
          simp only [go_sem, List.length_map, hw, hgo, hrow, hci, hsi, List.getElem?_eq_getElem hlt, Cell.enc, hrow', hp, hpos, hltj, hsj, hgetj]
          refine ⟨fun h2 => ⟨bool_f (hbad ?_), _, rfl⟩, fun h2 => ?_⟩
          · rintro ⟨c, hc, _, hlt'⟩
            obtain ⟨d, hd, hlt'⟩ := hlt' (by omega)
            rw [hget] at hc
            rw [Nat.add_sub_cancel, hgetj] at hd
            cases hc; cases hd
            exact h2 hlt'
          · refine ⟨(j + 1) + 1, by show l.length - ((j + 1) + 1) < l.length - (j + 1); omega, ?_, _, [], rfl, Wk.mk' rfl (by decide) (by simp only [go_sem, hrho, List.length_map]) (by simp only [go_sem, hrho, List.length_map])⟩
            refine ⟨by omega, fun x hx => ?_⟩
            rcases Nat.lt_or_ge x (j + 1) with g | g
            · exact hno x g
            · obtain rfl : x = j + 1 := by omega
              exact ⟨_, hget, h1, fun _ => ⟨_, hgetj, Classical.not_not.1 h2⟩⟩
      · simp only [go_sem, List.length_map, hw, hgo, hrow, hci, hsi, List.getElem?_eq_getElem hlt, Cell.enc]
        exact ⟨bool_f (hbad (by rintro ⟨c, hc, h, _⟩; rw [hget] at hc; cases hc; exact h1 h)), _, rfl⟩
    · have hci : ¬ (i : Int) < (l.length : Int) := by omega
      simp only [go_sem, List.length_map, hci]
      exact ⟨bool_t fun j hj => hno j (by omega), _, rfl⟩

end Go.Proofs
/- index: the rows of a span, walked. -/

set_option linter.all false
set_option maxRecDepth 100000
namespace Go.Proofs
open Go Go.Ev
variable {H : Heap}

def there (c : Cell) : Prop := 0 < c.ver ∧ c.del = false
instance (c : Cell) : Decidable (there c) := inferInstanceAs (Decidable (_ ∧ _))
end Go.Proofs
/- index: a cell put in its place, walked. -/


set_option linter.all false
set_option maxRecDepth 100000
namespace Go.Proofs
open Go Go.Ev
variable {H : Heap}

theorem clo50 : CloFn Tryz.prog 106 5 56 [.str [], .str [], .int .i64 0, .bool false, .int .i64 0] := ⟨⟨Tryz.f106, Tryz.func106, by kernel_rfl, by kernel_rfl⟩, rfl, by decide⟩
/-- the cell c put among the cells l -/
noncomputable def withL (l : List Cell) (c : Cell) : List Cell :=
  match l with
  | [] => [c]
  | d :: l => if ltS d.key c.key then d :: withL l c else if d.key = c.key then c :: l else c :: d :: l
end Go.Proofs
/- once: numbers and texts as bytes, answers that may be: walked. -/


set_option linter.all false
set_option maxRecDepth 100000
namespace Go.Proofs
open Go Go.Ev
variable {H : Heap}

def byteV (b : Nat) : AV := .int .u8 (b : Int)
/-- a byte, in a cell -/
def byteC (b : Nat) : List AV := [byteV b]
theorem byteC_rens (ρ : K → K) (l : List Nat) : (l.map byteC).map (AV.rens ρ) = l.map byteC := by
  rw [List.map_map]
  refine List.map_congr_left fun j _ => ?_
  show [AV.ren ρ (.int .u8 (j : Int))] = _
  rw [AV.ren]; rfl
theorem byteC_ren1 (ρ : K → K) (b : Nat) : AV.rens ρ (byteC b) = byteC b := by show [AV.ren ρ (.int .u8 (b : Int))] = _; rw [AV.ren]; rfl
theorem bytesC_all {β : Type} : ∀ {l : List Nat} (_ : ∀ b ∈ l, b ≤ 255) (f : β) (c : List Nat → β), bytesC (l.map byteV) f c = c l
  | [], _, _, _ => rfl
  | b :: l, h, f, c => by
    show bif' (Nat.beq (kn .u8) 4) (bif' (Nat.ble b 255) (bytesC (l.map byteV) f fun r => c (b :: r)) f) f = _
    rw [show Nat.beq (kn .u8) 4 = true from rfl, bif_true, show Nat.ble b 255 = true by rw [Nat.ble_eq]; exact h b (by simp), bif_true]
    exact bytesC_all (fun x hx => h x (by simp [hx])) f _
theorem flat_bytes : ∀ l : List Nat, (l.map byteC).flatten = l.map byteV
  | [] => rfl
  | b :: l => by rw [List.map_cons, List.flatten_cons, flat_bytes l]; rfl
theorem read_bytes {β : Type} {l : List Nat} (h : 0 < l.length) (f : β) (c : List AV → β) : readC f 1 (l.map byteC) 0 l.length c = c (l.map byteV) := by
  match l, h with
  | b :: l, _ =>
    by_cases hl : l = []
    · subst hl
      simp only [List.map_cons, List.map_nil, List.length_cons, List.length_nil]
      rfl
    · have h1 : 0 < l.length := List.length_pos_iff.2 hl
      have h2 : ((b :: l).map byteC).flatten = (b :: l).map byteV := flat_bytes _
      unfold readC
      simp only [fN_eq, nthL_eq, Nat.zero_div, Nat.zero_mod, dropL_eq, List.drop_zero, flatL_eq, h2, takeC_eq, Nat.zero_add, List.length_map, Nat.le_refl, if_true]
      show bif' (Nat.beq 0 0 && Nat.beq (b :: l).length 1) (c [byteV b]) (bif' (Nat.ble (b :: l).length 1) (if (b :: l).length ≤ 1 then c _ else f) (c (List.take (b :: l).length _))) = _
      rw [show Nat.beq (b :: l).length 1 = false by rw [Bool.eq_false_iff]; intro e; rw [Nat.beq_eq] at e; simp at e; exact hl e, show Nat.ble (b :: l).length 1 = false by rw [Bool.eq_false_iff]; intro e; rw [Nat.ble_eq, List.length_cons] at e; omega]
      show c _ = c _
      rw [List.take_of_length_le (by rw [List.length_map]; exact Nat.le_refl _)]
theorem and63 {m : Nat} (h : m < 9223372036854775808) : IntKind.i64.wrap ((BitVec.ofInt IntKind.i64.bits (m : Int) &&& BitVec.ofInt IntKind.i64.bits 63).toNat : Int) = ((m % 64 : Nat) : Int) := by
  have h1 : (BitVec.ofInt IntKind.i64.bits (m : Int) &&& BitVec.ofInt IntKind.i64.bits 63).toNat = m % 64 := by
    rw [BitVec.toNat_and, BitVec.toNat_ofInt, BitVec.toNat_ofInt]
    show ((m : Int) % ((2 ^ 64 : Nat) : Int)).toNat &&& ((63 : Int) % ((2 ^ 64 : Nat) : Int)).toNat = _
    rw [show ((m : Int) % ((2 ^ 64 : Nat) : Int)).toNat = m by omega, show ((63 : Int) % ((2 ^ 64 : Nat) : Int)).toNat = 2 ^ 6 - 1 by decide, Nat.and_two_pow_sub_one_eq_mod]
  rw [h1]
  exact wrap_i64 (by omega) (by omega)
theorem or64 {r : Nat} (h : r < 64) : IntKind.i64.wrap ((BitVec.ofInt IntKind.i64.bits 64 ||| BitVec.ofInt IntKind.i64.bits (r : Int)).toNat : Int) = ((64 + r : Nat) : Int) := by
  have h1 : (BitVec.ofInt IntKind.i64.bits 64 ||| BitVec.ofInt IntKind.i64.bits (r : Int)).toNat = 64 + r := by
    rw [BitVec.toNat_or, BitVec.toNat_ofInt, BitVec.toNat_ofInt]
    show ((64 : Int) % ((2 ^ 64 : Nat) : Int)).toNat ||| ((r : Int) % ((2 ^ 64 : Nat) : Int)).toNat = _
    rw [show ((r : Int) % ((2 ^ 64 : Nat) : Int)).toNat = r by omega, show ((64 : Int) % ((2 ^ 64 : Nat) : Int)).toNat = 2 ^ 6 * 1 by decide]
    exact (Nat.two_pow_add_eq_or_of_lt (i := 6) h 1).symm
  rw [h1]
  exact wrap_i64 (by omega) (by omega)
theorem bin_and63 {β : Type} {P : Program} (ek : EK) (pk : Option (List LK)) (lit : Bool) {m : Nat} (h : m < 9223372036854775808) (f : β) (c : AV → β) : binV P ek pk lit .and (.int .i64 (m : Int)) (.int .i64 63) f c = c (.int .i64 ((m % 64 : Nat) : Int)) := by rw [bin_and, and63 h]
theorem bin_or64 {β : Type} {P : Program} (ek : EK) (pk : Option (List LK)) (lit : Bool) {r : Nat} (h : r < 64) (f : β) (c : AV → β) : binV P ek pk lit .or (.int .i64 64) (.int .i64 (r : Int)) f c = c (.int .i64 ((64 + r : Nat) : Int)) := by rw [bin_or, or64 h]
@[go_sem] theorem bin_shr6 {β : Type} {P : Program} (ek : EK) (pk : Option (List LK)) (lit : Bool) (a : Int) (f : β) (c : AV → β) : binV P ek pk lit .shr (.int .i64 a) (.int .u64 6) f c = c (.int .i64 (a.fdiv 64)) := bin_shr ek pk lit .i64 a f c .u64 6
/-- a number's bytes -/
def numT (n : Nat) : List Nat := if h : n < 64 then [n] else (64 + n % 64) :: numT (n / 64)
termination_by n
decreasing_by omega
theorem numT_lo {n : Nat} (h : n < 64) : numT n = [n] := by rw [numT, dif_pos h]
theorem numT_hi {n : Nat} (h : ¬ n < 64) : numT n = (64 + n % 64) :: numT (n / 64) := by rw [numT, dif_neg h]
theorem numT_len : ∀ (k n : Nat), n < 64 ^ (k + 1) → (numT n).length ≤ k + 1
  | 0, n, h => by rw [numT_lo (by simpa using h)]; simp
  | k + 1, n, h => by
    by_cases hn : n < 64
    · rw [numT_lo hn]; simp
    · rw [numT_hi hn, List.length_cons]
      have : n / 64 < 64 ^ (k + 1) := by
        rw [Nat.div_lt_iff_lt_mul (by decide)]
        rw [Nat.pow_succ] at h
        exact h
      have := numT_len k (n / 64) this
      omega
theorem numT_pos (n : Nat) : 0 < (numT n).length := by
  by_cases hn : n < 64
  · rw [numT_lo hn]; simp
  · rw [numT_hi hn]; simp
theorem numT_small {n : Nat} (h : n < 9223372036854775808) : (numT n).length ≤ 11 := numT_len 10 n (by omega)
theorem f112_ok {n : Nat} (hn : n < 9223372036854775808) : FnOk Tryz.prog 112 [.int .i64 (n : Int)] H fun r G => r = .str (numT n) ∧ G = H := by
  refine FnOk.drop (R := fun r => r = .str (numT n)) ?_ (by rintro v rfl ρ; rw [AV.ren])
  refine FnOk.of_WW Tryz.func112 rfl C112ok R112ok E0 good_E0 ?_
  have hmax : max (n : Int) 0 = (n : Int) := by omega
  simp only [go_sem, C112, hmax]
  refine LL.st good_E0 (fun s : Nat × List Nat => s.1) (fun s => s.1 ≤ n ∧ s.2 ++ numT s.1 = numT n ∧ ∀ b ∈ s.2, b ≤ 255)
    (fun s => [(.z, .int .i64 s.1), ((.o (.o .z)), outV (H.key 0) 1 s.2.length)]) (fun s => [outB 1 (s.2.map byteC)]) ?_ (n, []) (σ := [0]) (Wk.of rfl (by decide) (by simp only [go_sem]) (by simp only [go_sem, ↓outB_ren', ↓zB_ren, byteC_rens, byteC_ren1, implies_true])) ⟨Nat.le_refl _, rfl, by simp⟩
  rintro ⟨m, acc⟩ ⟨hm, hacc, hby⟩
  simp only at hm hacc hby
  have hlen := congrArg List.length hacc
  rw [List.length_append] at hlen
  have h11 := numT_small hn
  have hmp := numT_pos m
  by_cases hlt : m < 64
  · have hc : ¬ (64 : Int) ≤ (m : Int) := by omega
    have hw := wrap_u8 (m := m) (by omega)
    simp only [go_sem, ↓appR_hide, hc, hw]
    refine RW_app _ (byteC m) rfl (List.length_map ..) rfl (okBig_le (by omega) (by decide)) ?_
    have hs : acc.map byteC ++ [byteC m] = (acc ++ [m]).map byteC := by rw [List.map_append]; rfl
    have hsl : (acc ++ [m]).length = acc.length + 1 := by rw [List.length_append]; rfl
    have hB := outB_pos (e := 1) (xs := (acc ++ [m]).map byteC) (by rw [List.length_map, hsl]; omega)
    have hrd := fun c => read_bytes (l := acc ++ [m]) (by omega) R1.fail c
    have hall := fun c => bytesC_all (l := acc ++ [m]) (fun b hb => by
      rcases List.mem_append.1 hb with h | h
      · exact hby b h
      · rw [List.mem_singleton] at h; omega) R1.fail c
    rw [hsl] at hrd
    rw [hs, hB]
    rw [numT_lo hlt] at hacc
    rw [hacc] at hall hrd ⊢
    simp only [go_sem, hrd, hall]
    exact ⟨_, rfl⟩
  · have hc : (64 : Int) ≤ (m : Int) := by omega
    have ha := fun f c => bin_and63 (β := R1) (P := Tryz.prog) .no none true (m := m) (by omega) f c
    have hr : m % 64 < 64 := Nat.mod_lt _ (by decide)
    have ho := fun f c => bin_or64 (β := R1) (P := Tryz.prog) .no none true hr f c
    have hu := wrap_u8 (m := 64 + m % 64) (by omega)
    have hs : Int.fdiv (m : Int) 64 = ((m / 64 : Nat) : Int) := by rw [Int.fdiv_eq_ediv_of_nonneg _ (by decide)]; omega
    simp only [go_sem, ↓appR_hide, hc, ↓ha, ↓ho, hu, hs]
    refine RW_app _ (byteC (64 + m % 64)) rfl (List.length_map ..) rfl (okBig_le (by omega) (by decide)) ?_
    have hs2 : acc.map byteC ++ [byteC (64 + m % 64)] = (acc ++ [64 + m % 64]).map byteC := by rw [List.map_append]; rfl
    rw [hs2]
    simp only [go_sem, hs]
    refine ⟨(m / 64, acc ++ [64 + m % 64]), by show m / 64 < m; omega, ⟨by show m / 64 ≤ n; omega, ?_, ?_⟩, _, [2], rfl, Wk.of rfl (by decide) (by simp only [go_sem, outV_ren']) (by simp only [go_sem, ↓outB_ren', ↓zB_ren, byteC_rens, byteC_ren1, implies_true])⟩
    · show (acc ++ [64 + m % 64]) ++ numT (m / 64) = numT n
      rw [← hacc, numT_hi hlt, List.append_assoc]; rfl
    · intro b hb
      rcases List.mem_append.1 hb with h | h
      · exact hby b h
      · rw [List.mem_singleton] at h; omega
end Go.Proofs
/- once: texts as bytes, answers that may be: walked. -/

set_option linter.all false
set_option maxRecDepth 100000
namespace Go.Proofs
open Go Go.Ev
variable {H : Heap}

def textT (s : List Nat) : List Nat := numT s.length ++ s
theorem f114_ok {s : List Nat} (hs : s.length < 4611686018427387904) : FnOk Tryz.prog 114 [.str s] H fun r G => r = .str (textT s) ∧ G = H := by
  refine FnOk.drop (R := fun r => r = .str (textT s)) ?_ (by rintro v rfl ρ; rw [AV.ren])
  refine FnOk.of_WW Tryz.func114 rfl C114ok R114ok E0 good_E0 ?_
  have h := numT_small (n := s.length) (by omega)
  have hle : (numT s.length).length + s.length ≤ 9223372036854775807 := by omega
  simp only [go_sem, C114]
  refine CL.one (f112_ok (by omega)) ?_
  simp only [go_sem, hle]
  exact ⟨rfl, _, rfl⟩
/-- a row of an answer -/
structure Rw where
  k : List Nat
  v : List Nat
  ver : Int
def Rw.enc (r : Rw) : List AV := [.str r.k, .str r.v, .int .i64 r.ver]
def badR (r : Rw) : Prop := (255 : Int) < (r.k.length : Int) ∨ (255 : Int) < (r.v.length : Int) ∨ r.ver < 0 ∨ (281474976710656 : Int) ≤ r.ver
instance (r : Rw) : Decidable (badR r) := inferInstanceAs (Decidable (_ ∨ _))
theorem f211_ok (c : Rw) : FnOk Tryz.prog 211 [.agg c.enc] H fun r G => r = .bool (decide (badR c)) ∧ G = H := by
  refine FnOk.drop (R := fun r => r = .bool (decide (badR c))) ?_ (by rintro v rfl ρ; rw [AV.ren])
  refine FnOk.of_WW Tryz.func211 rfl C211ok R211ok E0 good_E0 ?_
  simp only [go_sem, C211, Rw.enc]
  refine ⟨fun h => ⟨bool_t (.inl h), _, rfl⟩, fun h1 => ⟨fun h => ⟨bool_t (.inr (.inl h)), _, rfl⟩, fun h2 => ⟨fun h => ⟨bool_t (.inr (.inr (.inl h))), _, rfl⟩, fun h3 => ⟨fun h => ⟨bool_t (.inr (.inr (.inr h))), _, rfl⟩, fun h4 => ⟨bool_f ?_, _, rfl⟩⟩⟩⟩⟩
  rintro (h | h | h | h)
  · exact h1 h
  · exact h2 h
  · exact h3 h
  · exact h4 h
def anyBad (l : List Rw) : Prop := ∃ r ∈ l, badR r
noncomputable instance (l : List Rw) : Decidable (anyBad l) := Classical.propDecidable _
theorem f254_ok {v : AV} {l : List Rw} (hA : Arr H 3 v (l.map Rw.enc)) (hl : l.length ≤ 9223372036854775807) :
    FnOk Tryz.prog 254 [v, .fn (.func 211) [] []] H fun r G => (∃ n : Int, r = .int .i64 n ∧ (0 ≤ n ↔ anyBad l)) ∧ G = H := by
  refine FnOk.assume fun hok => ?_
  refine FnOk.drop (R := fun r => ∃ n : Int, r = .int .i64 n ∧ (0 ≤ n ↔ anyBad l)) ?_ (by rintro v ⟨n, rfl, _⟩ ρ; rw [AV.ren])
  refine FnOk.of_WW Tryz.func254 rfl C254ok R254ok E0 good_E0 ?_
  have hlen := fun G => hA.len G; simp only [List.length_map] at hlen; have hren := hA.ren
  simp only [go_sem, C254, hlen]
  refine LL.st good_E0 (fun i : Nat => l.length - i) (fun i => i ≤ l.length ∧ ∀ j d, j < i → l[j]? = some d → ¬ badR d)
    (fun i => [(.z, v), ((.o .z), .fn (.func 211) [] []), ((.i (.i .z)), v), ((.o (.o (.o .z))), .int .i64 l.length), ((.i (.o (.o .z))), .int .i64 i)]) (fun i => []) ?_ 0 (σ := []) (Wk.of rfl (by decide) (by simp only [go_sem, hren]) (by simp only [go_sem])) ⟨Nat.zero_le _, fun j d h => absurd h (Nat.not_lt_zero _)⟩
  rintro i ⟨hi, hno⟩
  by_cases hlt : i < l.length
  · obtain ⟨kk, r, ex', cap', wr, rows, hv, hrho, hgo, hrow⟩ := hA.at hok (j := i) (by rw [List.length_map]; exact hlt); simp only [List.length_map, List.getElem_map] at hv hrow; cases hv; have hget : l[i]? = some l[i] := List.getElem?_eq_getElem hlt; generalize l[i] = c at hrow hget; have hw := wrap_succ (n := i) (by omega); have hci : (i : Int) < (l.length : Int) := (by omega); have hsi : i + 1 ≤ l.length := (by omega)
    simp only [go_sem, hci, hsi, hgo, hrow, hw, Rw.enc]
    refine CL.bool (f211_ok c) (fun g => ?_) (fun g => ?_)
    · simp only [go_sem]
      exact ⟨⟨_, rfl, fun _ => ⟨c, List.mem_of_getElem? hget, g⟩, fun _ => by omega⟩, _, rfl⟩
    · simp only [go_sem, hw]
      refine ⟨i + 1, by show l.length - (i + 1) < l.length - i; omega, ⟨by omega, fun j d hj hd => ?_⟩, _, [], rfl, Wk.of rfl (by decide) (by simp only [go_sem, hren, hrho, hw]) (by simp only [go_sem])⟩
      rcases Nat.lt_or_ge j i with h | h
      · exact hno j d h hd
      · obtain rfl : j = i := by omega
        rw [hget] at hd; cases hd; exact g
  · have hci : ¬ (i : Int) < (l.length : Int) := by omega
    simp only [go_sem, hci]
    refine ⟨⟨_, rfl, fun h => absurd h (by decide), ?_⟩, _, rfl⟩
    rintro ⟨d, hd, hb⟩
    obtain ⟨j, hj⟩ := List.mem_iff_getElem?.1 hd
    exact absurd hb (hno j d (by have := (List.getElem?_eq_some_iff.1 hj).1; omega) hj)
theorem f212_ok {v : AV} {l : List Rw} (hA : Arr H 3 v (l.map Rw.enc)) (hl : l.length ≤ 9223372036854775807) :
    FnOk Tryz.prog 212 [v, .fn (.func 211) [] []] H fun r G => r = .bool (decide (anyBad l)) ∧ G = H := by
  refine FnOk.drop (R := fun r => r = .bool (decide (anyBad l))) ?_ (by rintro v rfl ρ; rw [AV.ren])
  refine FnOk.of_WW Tryz.func212 rfl C212ok R212ok E0 good_E0 ?_
  simp only [go_sem, C212]
  refine CL.of (f254_ok (hA.ext []) hl) ?_
  rintro _ _ ⟨⟨n, rfl, hn⟩, rfl⟩
  simp only [go_sem]
  exact ⟨fun h => ⟨bool_t (hn.1 h), [], rfl⟩, fun h => ⟨bool_f fun e => h (hn.2 e), [], rfl⟩⟩
/-- an answer, with where its rows lie -/
structure An where
  code : Int
  val : List Nat
  ver : Int
  rows : List Rw
  rv : AV
def An.enc (a : An) : List AV := [.int .i64 a.code, .str a.val, .int .i64 a.ver, a.rv]
def An.ok (H : Heap) (a : An) : Prop := Arr H 3 a.rv (a.rows.map Rw.enc) ∧ a.rows.length ≤ 9223372036854775807
theorem An.ok.ext {a : An} (h : a.ok H) (L : List Blk) : a.ok (H.ext L) := ⟨h.1.ext L, h.2⟩
def isAns (a : An) : Prop := (0 ≤ a.code ∧ a.code < 281474976710656 ∧ 0 ≤ a.ver ∧ a.ver < 281474976710656 ∧ (a.val.length : Int) ≤ 255) ∧ (a.rows.length : Int) ≤ 16 ∧ ¬ anyBad a.rows
noncomputable instance (a : An) : Decidable (isAns a) := Classical.propDecidable _
theorem f171_ok {a : An} (h : a.ok H) : FnOk Tryz.prog 171 [.agg a.enc] H fun r G => r = .bool (decide (isAns a)) ∧ G = H := by
  refine FnOk.drop (R := fun r => r = .bool (decide (isAns a))) ?_ (by rintro v rfl ρ; rw [AV.ren])
  refine FnOk.of_WW Tryz.func171 rfl C171ok R171ok E0 good_E0 ?_
  have hlen := fun G => h.1.len G
  simp only [List.length_map] at hlen
  simp only [go_sem, C171, An.enc, hlen]
  refine ⟨fun g => ⟨bool_f fun e => absurd e.1.1 (by omega), _, rfl⟩, fun g1 => ⟨fun g => ⟨bool_f fun e => absurd e.1.2.1 (by omega), _, rfl⟩, fun g2 => ⟨fun g => ⟨bool_f fun e => absurd e.1.2.2.1 (by omega), _, rfl⟩, fun g3 => ⟨fun g => ⟨bool_f fun e => absurd e.1.2.2.2.1 (by omega), _, rfl⟩, fun g4 => ⟨fun g => ⟨bool_f fun e => absurd e.1.2.2.2.2 (by omega), _, rfl⟩, fun g5 => ⟨fun g => ⟨bool_f fun e => absurd e.2.1 (by omega), _, rfl⟩, fun g6 => ?_⟩⟩⟩⟩⟩⟩
  refine CL.bool (f212_ok (h.1.ext _) h.2) (fun g7 => ?_) (fun g7 => ?_)
  · simp only [go_sem]
    exact ⟨bool_f fun e => e.2.2 g7, _, rfl⟩
  · simp only [go_sem]
    exact ⟨bool_t ⟨⟨by omega, by omega, by omega, by omega, by omega⟩, by omega, g7⟩, _, rfl⟩
end Go.Proofs
/- once: an answer's bytes; whether an answer may be, by the document: walked. -/

set_option linter.all false
set_option maxRecDepth 100000
namespace Go.Proofs
open Go Go.Ev
variable {H : Heap}

noncomputable def EO1 : FuncId → List AV → Heap → RC
  | 112, [.int .i64 n], H => if 0 ≤ n ∧ n < 9223372036854775808 then .ok (.str (numT n.toNat)) H else .fail
  | 114, [.str s], H => if s.length < 4611686018427387904 then .ok (.str (textT s)) H else .fail
  | _, _, _ => .fail
theorem good_EO1 : Ev.Good Tryz.prog EO1 := by
  intro f args H r G he φ w args' ha hw
  refine (?_ : FnOk Tryz.prog f args H fun v' G' => v' = r ∧ G' = G).one φ w args' ha hw
  unfold EO1 at he
  split at he
  · rename_i n
    split at he
    · rename_i hn
      cases he
      have := f112_ok (H := H) (n := n.toNat) (by omega)
      rwa [Int.toNat_of_nonneg hn.1] at this
    · cases he
  · split at he
    · rename_i hs
      cases he
      exact f114_ok hs
    · cases he
  · cases he
theorem e69 {n : Int} (h0 : 0 ≤ n) (h1 : n < 9223372036854775808) (H : Heap) : EO1 112 [.int .i64 n] H = .ok (.str (numT n.toNat)) H := if_pos ⟨h0, h1⟩
theorem e70 {s : List Nat} (h : s.length < 4611686018427387904) (H : Heap) : EO1 114 [.str s] H = .ok (.str (textT s)) H := if_pos h
def rowT (r : Rw) : List Nat := (textT r.k ++ textT r.v) ++ numT r.ver.toNat
def headT (a : An) : List Nat := ((numT a.code.toNat ++ textT a.val) ++ numT a.ver.toNat) ++ numT a.rows.length
def ansP (a : An) (i : Nat) : List Nat := (a.rows.take i).foldl (fun s r => s ++ rowT r) (headT a)
noncomputable def ansT (a : An) : List Nat := open Classical in if isAns a then ansP a a.rows.length else []
theorem ansP_succ {a : An} {i : Nat} {c : Rw} (h : a.rows[i]? = some c) : ansP a (i + 1) = ansP a i ++ rowT c := by
  obtain ⟨hl, rfl⟩ := List.getElem?_eq_some_iff.1 h
  unfold ansP
  rw [List.take_succ_eq_append_getElem hl, List.foldl_append]; rfl
theorem textT_len {s : List Nat} (h : (s.length : Int) ≤ 255) : (textT s).length ≤ 266 := by
  unfold textT
  rw [List.length_append]
  have := numT_small (n := s.length) (by omega)
  omega
theorem foldl_len (l : List Rw) : ∀ s : List Nat, s.length ≤ (l.foldl (fun s r => s ++ rowT r) s).length := by
  induction l with
  | nil => intro s; exact Nat.le_refl _
  | cons r l ih =>
    intro s
    refine Nat.le_trans ?_ (ih _)
    rw [List.length_append]; omega
theorem ansT_nil {a : An} : ansT a = [] ↔ ¬ isAns a := by
  unfold ansT
  by_cases h : isAns a
  · rw [if_pos h]
    refine ⟨fun e => ?_, fun g => absurd h g⟩
    have h1 := foldl_len (a.rows.take a.rows.length) (headT a)
    have h2 : (headT a).length = 0 := by
      have := congrArg List.length e
      unfold ansP at this
      rw [this] at h1
      simpa using h1
    unfold headT at h2
    have := numT_pos a.rows.length
    simp only [List.length_append] at h2
    omega
  · rw [if_neg h]; exact ⟨fun _ => h, fun _ => rfl⟩
theorem f124_ok {a : An} (h : a.ok H) : FnOk Tryz.prog 124 [.agg a.enc] H fun r G => r = .str (ansT a) ∧ G = H := by
  refine FnOk.assume fun hok => ?_
  refine FnOk.drop (R := fun r => r = .str (ansT a)) ?_ (by rintro v rfl ρ; rw [AV.ren])
  refine FnOk.of_WW Tryz.func124 rfl C124ok R124ok EO1 good_EO1 ?_
  have hans : isAns a → ansT a = ansP a a.rows.length := fun g => by unfold ansT; rw [if_pos g]
  have hnot : ¬ isAns a → ansT a = [] := ansT_nil.2
  have hsucc := @ansP_succ a
  have h0 : ansP a 0 = headT a := rfl
  have hbox := h
  obtain ⟨hA, hl⟩ := h
  have hlen := fun G => hA.len G
  simp only [List.length_map] at hlen
  have hren := hA.ren
  simp only [go_sem, C124, An.enc]
  refine CL.bool (f171_ok (a := a) (hbox.ext _)) (fun g => ?_) (fun g => ?_)
  · have hnb : ∀ r ∈ a.rows, ¬ badR r := fun r hr hb => g.2.2 ⟨r, hr, hb⟩
    have hr16 := g.2.1
    obtain ⟨c1, c2, c3, c4, c5⟩ := g.1
    have x1 := fun G => e69 c1 (by omega) G
    have x2 := fun G => e70 (s := a.val) (by omega) G
    have x3 := fun G => e69 c3 (by omega) G
    have x4 := fun G => e69 (n := (a.rows.length : Int)) (by omega) (by omega) G
    rw [Int.toNat_natCast] at x4
    have n1 := numT_small (n := a.code.toNat) (by omega)
    have n2 := textT_len c5
    have n3 := numT_small (n := a.ver.toNat) (by omega)
    have n4 := numT_small (n := a.rows.length) (by omega)
    have m1 : (numT a.code.toNat).length + (textT a.val).length ≤ 9223372036854775807 := by omega
    have m2 : (numT a.code.toNat).length + (textT a.val).length + (numT a.ver.toNat).length ≤ 9223372036854775807 := by omega
    have m3 : (numT a.code.toNat).length + (textT a.val).length + (numT a.ver.toNat).length + (numT a.rows.length).length ≤ 9223372036854775807 := by omega
    have mh : (headT a).length ≤ 1000 := by unfold headT; rw [List.length_append, List.length_append, List.length_append]; omega
    have hhead : numT a.code.toNat ++ textT a.val ++ numT a.ver.toNat ++ numT a.rows.length = headT a := rfl
    simp only [go_sem, hlen, x1, x2, x3, x4, m1, m2, m3, hhead]
    have hfin := hans g
    obtain ⟨code, val, ver, l, v⟩ := a
    simp only at hA hl hlen hren hnb hr16 hfin hsucc
    refine LL.st good_EO1 (fun i : Nat => l.length - i) (fun i => i ≤ l.length ∧ (ansP ⟨code, val, ver, l, v⟩ i).length ≤ 1000 + 1000 * i)
      (fun i => [((.o (.o .z)), .str (ansP ⟨code, val, ver, l, v⟩ i)), ((.i (.i (.o (.i .z)))), v), ((.o (.o (.i (.i .z)))), .int .i64 l.length), ((.i (.o (.i (.i .z)))), .int .i64 i)]) (fun i => []) ?_ 0 (σ := []) (Wk.of rfl (by decide) (by simp only [go_sem, hren, h0]) (by simp only [go_sem])) ⟨Nat.zero_le _, by rw [h0]; omega⟩
    rintro i ⟨hi, hpl⟩
    by_cases hlt : i < l.length
    · generalize hP : ansP ⟨code, val, ver, l, v⟩ = P at *
      obtain ⟨kk, r, ex', cap', wr, rows, hv, hrho, hgo, hrow⟩ := hA.at hok (j := i) (by rw [List.length_map]; exact hlt); simp only [List.length_map, List.getElem_map] at hv hrow; cases hv; have hget : l[i]? = some l[i] := List.getElem?_eq_getElem hlt; generalize l[i] = c at hrow hget; have hw := wrap_succ (n := i) (by omega); have hci : (i : Int) < (l.length : Int) := (by omega); have hsi : i + 1 ≤ l.length := (by omega)
      have hb := hnb c (List.mem_of_getElem? hget)
      have hs := hsucc hget
      have b1 : (c.k.length : Int) ≤ 255 := Int.not_lt.1 fun e => hb (.inl e)
      have b2 : (c.v.length : Int) ≤ 255 := Int.not_lt.1 fun e => hb (.inr (.inl e))
      have b3 : 0 ≤ c.ver := Int.not_lt.1 fun e => hb (.inr (.inr (.inl e)))
      have b4 : c.ver < 281474976710656 := Int.not_le.1 fun e => hb (.inr (.inr (.inr e)))
      have y1 := fun G => e70 (s := c.k) (by omega) G
      have y2 := fun G => e70 (s := c.v) (by omega) G
      have y3 := fun G => e69 b3 (by omega) G
      have n1 := textT_len b1
      have n2 := textT_len b2
      have n3 := numT_small (n := c.ver.toNat) (by omega)
      have q1 : (textT c.k).length + (textT c.v).length ≤ 9223372036854775807 := by omega
      have q2 : (textT c.k).length + (textT c.v).length + (numT c.ver.toNat).length ≤ 9223372036854775807 := by omega
      have q3 : (P i).length + ((textT c.k).length + (textT c.v).length + (numT c.ver.toNat).length) ≤ 9223372036854775807 := by omega
      have hrow2 : textT c.k ++ textT c.v ++ numT c.ver.toNat = rowT c := rfl
      have hrl : (rowT c).length = (textT c.k).length + (textT c.v).length + (numT c.ver.toNat).length := by unfold rowT; rw [List.length_append, List.length_append]
      simp only [go_sem, hci, hsi, hgo, hrow, hw, Rw.enc, y1, y2, y3, q1, q2, q3, hrow2]
      refine ⟨by omega, i + 1, by show l.length - (i + 1) < l.length - i; omega, ⟨by omega, ?_⟩, _, [], rfl, Wk.of rfl (by decide) (by simp only [go_sem, hrho, hw, hs]) (by simp only [go_sem])⟩
      rw [hs, List.length_append]
      omega
    · have hci : ¬ (i : Int) < (l.length : Int) := by omega
      simp only [go_sem, hci]
      rw [hfin, show i = l.length by omega]
      exact ⟨rfl, _, rfl⟩
  · simp only [go_sem]
    rw [hnot g]
    exact ⟨rfl, _, rfl⟩
end Go.Proofs
/- once: whether they are any, few, the same: walked. -/

set_option linter.all false
set_option maxRecDepth 100000
namespace Go.Proofs
open Go Go.Ev
variable {H : Heap}

/-- what was done of a session last -/
structure Dn where
  ses : Int
  id : Int
  an : An
theorem off6 (a b c : Nat) : a * 6 + b + c = a * 6 + (b + c) := Nat.add_assoc ..
theorem wrap01 : IntKind.i64.wrap (0 + 1) = 1 := rfl
def Dn.enc (d : Dn) : List AV := [.int .i64 d.ses, .int .i64 d.id, .int .i64 d.an.code, .str d.an.val, .int .i64 d.an.ver, d.an.rv]
def allOk (H : Heap) (l : List Dn) : Prop := ∀ d ∈ l, d.an.ok H
theorem allOk.ext {l : List Dn} (h : allOk H l) (L : List Blk) : allOk (H.ext L) l := fun d hd => (h d hd).ext L
def okD (d : Dn) : Prop := (0 ≤ d.ses ∧ d.ses < 3 ∧ 1 ≤ d.id ∧ d.id ≤ 1000000000000) ∧ isAns d.an
def okDt (l : List Dn) (j : Nat) : Prop := ∃ c, l[j]? = some c ∧ okD c ∧ (0 < j → ∃ d, l[j - 1]? = some d ∧ d.ses < c.ses)
def isDone (l : List Dn) : Prop := ∀ j, j < l.length → okDt l j
noncomputable instance (l : List Dn) : Decidable (isDone l) := Classical.propDecidable _
theorem f60_ok {v : AV} {l : List Dn} (hA : Arr H 6 v (l.map Dn.enc)) (ha : allOk H l) (hl : l.length < 9223372036854775807) :
    FnOk Tryz.prog 60 [v] H fun r G => r = .bool (decide (isDone l)) ∧ G = H := by
  refine FnOk.assume fun hok => ?_
  refine FnOk.drop (R := fun r => r = .bool (decide (isDone l))) ?_ (by rintro v rfl ρ; rw [AV.ren])
  refine FnOk.of_WW Tryz.func60 rfl C60ok R60ok E0 good_E0 ?_
  have hlen := fun G => hA.len G; simp only [List.length_map] at hlen; have hren := hA.ren
  simp only [go_sem, C60, hlen]
  refine LL.st good_E0 (fun i : Nat => l.length - i) (fun i => i ≤ l.length ∧ ∀ j, j < i → okDt l j)
    (fun i => [(.z, v), ((.o (.i .z)), v), ((.i (.i .z)), .int .i64 l.length), ((.o (.o (.o .z))), .int .i64 i)]) (fun i => []) ?_ 0 (σ := []) (Wk.of rfl (by decide) (by simp only [go_sem, hren]) (by simp only [go_sem])) ⟨Nat.zero_le _, fun j h => absurd h (Nat.not_lt_zero _)⟩
  rintro i ⟨hi, hno⟩
  by_cases hlt : i < l.length
  · obtain ⟨kk, r, ex', cap', wr, rows, hv, hrho, hgo, hrow⟩ := hA.at hok (j := i) (by rw [List.length_map]; exact hlt); simp only [List.length_map, List.getElem_map] at hv hrow; cases hv; have hget : l[i]? = some l[i] := List.getElem?_eq_getElem hlt; generalize l[i] = c at hrow hget; have hw := wrap_succ (n := i) (by omega); have hci : (i : Int) < (l.length : Int) := (by omega); have hsi : i + 1 ≤ l.length := (by omega)
    have hco := ha c (List.mem_of_getElem? hget)
    have hbad : ¬ okDt l i → AV.bool false = .bool (decide (isDone l)) := fun h => bool_f fun g => h (g i hlt)
    have hb1 : ¬ okD c → ¬ okDt l i := fun g ⟨c', h1, h2, _⟩ => by rw [hget] at h1; cases h1; exact g h2
    have hend : ∀ L, WW Tryz.prog E0 Tryz.f60.ntmps H [] L (H.ext []) (fun _ _ _ => True) → True := fun _ _ => trivial
    simp only [go_sem, hci, hsi, hgo, hrow, hw, Dn.enc]
    refine ⟨fun g1 => ⟨hbad (hb1 fun e => absurd e.1.1 (by omega)), _, rfl⟩, fun g1 => ⟨fun g2 => ⟨hbad (hb1 fun e => absurd e.1.2.1 (by omega)), _, rfl⟩, fun g2 => ?_⟩⟩
    rcases i with _ | i
    · simp only [go_sem, Int.ofNat_zero, Int.lt_irrefl]
      refine ⟨fun g3 => ⟨hbad (hb1 fun e => absurd e.1.2.2.1 (by omega)), _, rfl⟩, fun g3 => ⟨fun g4 => ⟨hbad (hb1 fun e => absurd e.1.2.2.2 (by omega)), _, rfl⟩, fun g4 => ?_⟩⟩
      refine CL.one (f124_ok (a := c.an) (hco.ext _)) ?_
      by_cases hans : isAns c.an
      · have hne : ¬ ansT c.an = [] := fun e => ansT_nil.1 e hans
        simp only [go_sem, hne, hw]
        refine ⟨0 + 1, by show l.length - (0 + 1) < l.length - 0; omega, ⟨by omega, fun j hj => ?_⟩, _, [], rfl, Wk.of rfl (by decide) (by simp only [go_sem, hren, hrho, hw, wrap01]) (by simp only [go_sem])⟩
        obtain rfl : j = 0 := by omega
        exact ⟨c, hget, ⟨⟨by omega, by omega, by omega, by omega⟩, hans⟩, fun h => absurd h (by decide)⟩
      · have hne : ansT c.an = [] := ansT_nil.2 hans
        simp only [go_sem, hne]
        exact ⟨hbad (hb1 fun e => hans e.2), _, rfl⟩
    · have hpos : (0 : Int) < ((i + 1 : Nat) : Int) := by omega
      have hp : IntKind.i64.wrap (((i + 1 : Nat) : Int) - 1) = (i : Int) := by rw [wrap_i64 (by omega) (by omega)]; omega
      have hltj : i < l.length := by omega
      obtain ⟨kk2, r2, ex2, cap2, wr2, rows2, hv2, _, hgo2, hrow2⟩ := hA.at hok (j := i) (by rw [List.length_map]; exact hltj); simp only [List.length_map, List.getElem_map] at hv2 hrow2; have hgetd : l[i]? = some l[i] := List.getElem?_eq_getElem hltj; generalize l[i] = d at hrow2 hgetd; injection hv2 with e1 e2 e3 e4 e5 e6; have e2' : r2 = r := (by omega); subst e1 e2'; have hrr := hgo2 []; rw [hgo []] at hrr; cases hrr
      have hsj : i + 1 ≤ l.length := by omega
      have hi0 : (0 : Int) ≤ (i : Int) := by omega
      simp only [go_sem, hpos, hp, hi0, hsj, hgo, hrow2, Dn.enc]
      refine ⟨fun g5 => ⟨hbad ?_, _, rfl⟩, fun g5 => ?_⟩
      · rintro ⟨c', h1, _, h2⟩
        obtain ⟨d', h3, h4⟩ := h2 (by omega)
        rw [hget] at h1; cases h1
        rw [Nat.add_sub_cancel, hgetd] at h3; cases h3
        omega
      refine ⟨fun g3 => ⟨hbad (hb1 fun e => absurd e.1.2.2.1 (by omega)), _, rfl⟩, fun g3 => ⟨fun g4 => ⟨hbad (hb1 fun e => absurd e.1.2.2.2 (by omega)), _, rfl⟩, fun g4 => ?_⟩⟩
      refine CL.one (f124_ok (a := c.an) (hco.ext _)) ?_
      by_cases hans : isAns c.an
      · have hne : ¬ ansT c.an = [] := fun e => ansT_nil.1 e hans
        simp only [go_sem, hne, hw]
        refine ⟨i + 1 + 1, by show l.length - (i + 1 + 1) < l.length - (i + 1); omega, ⟨by omega, fun j hj => ?_⟩, _, [], rfl, Wk.of rfl (by decide) (by simp only [go_sem, hren, hrho, hw, wrap01]) (by simp only [go_sem])⟩
        rcases Nat.lt_or_ge j (i + 1) with h | h
        · exact hno j h
        · obtain rfl : j = i + 1 := by omega
          exact ⟨c, hget, ⟨⟨by omega, by omega, by omega, by omega⟩, hans⟩, fun _ => ⟨d, by rw [Nat.add_sub_cancel]; exact hgetd, by omega⟩⟩
      · have hne : ansT c.an = [] := ansT_nil.2 hans
        simp only [go_sem, hne]
        exact ⟨hbad (hb1 fun e => hans e.2), _, rfl⟩
  · have hci : ¬ (i : Int) < (l.length : Int) := by omega
    simp only [go_sem, hci]
    exact ⟨bool_t fun j hj => hno j (by omega), _, rfl⟩
def fewD (l : List Dn) : Prop := (∀ d ∈ l, (d.an.val.length : Int) ≤ 60 ∧ (d.an.rows.length : Int) ≤ 8) ∧ (l.length : Int) ≤ 10
instance (l : List Dn) : Decidable (fewD l) := inferInstanceAs (Decidable (_ ∧ _))
end Go.Proofs
/- once: the same answers, the same rows of what was done, where a session's is: walked. -/

set_option linter.all false
set_option maxRecDepth 100000
namespace Go.Proofs
open Go Go.Ev
variable {H : Heap}

def sameA (a b : An) : Prop := a.code = b.code ∧ a.val = b.val ∧ a.ver = b.ver ∧ a.rows = b.rows
noncomputable instance (a b : An) : Decidable (sameA a b) := Classical.propDecidable _
def sameDn (c d : Dn) : Prop := c.ses = d.ses ∧ c.id = d.id ∧ sameA c.an d.an
/-- the same rows of what was done -/
def sameD (l m : List Dn) : Prop := l.length = m.length ∧ ∀ (i : Nat) (c d : Dn), l[i]? = some c → m[i]? = some d → sameDn c d
noncomputable instance (l m : List Dn) : Decidable (sameD l m) := Classical.propDecidable _
def findD : List Dn → Int → Option Dn
  | [], _ => none
  | d :: l, s => if d.ses = s then some d else findD l s
def zeroA : An := ⟨0, [], 0, [], .nils⟩
end Go.Proofs
/- once: what was done, the plain law. -/

set_option linter.all false
set_option maxRecDepth 100000
namespace Go.Proofs
open Go Go.Ev
abbrev upD (l : List Dn) : Prop := l.Pairwise fun c d => c.ses < d.ses
theorem upD_cons {c : Dn} {l : List Dn} : upD (c :: l) ↔ (∀ d ∈ l, c.ses < d.ses) ∧ upD l := List.pairwise_cons
theorem isDone_cons {c : Dn} {l : List Dn} : isDone (c :: l) ↔ okD c ∧ (∀ d, l[0]? = some d → c.ses < d.ses) ∧ isDone l := by
  constructor
  · intro h
    obtain ⟨c', h0, h1, _⟩ := h 0 (by simp)
    cases h0
    refine ⟨h1, fun d hd => ?_, fun j hj => ?_⟩
    · obtain ⟨e, g0, _, g2⟩ := h 1 (by have := (List.getElem?_eq_some_iff.1 hd).1; simp; omega)
      obtain ⟨c', g3, g4⟩ := g2 (by decide)
      rw [List.getElem?_cons_succ, hd] at g0; cases g0
      cases g3; exact g4
    · obtain ⟨e, g0, g1, g2⟩ := h (j + 1) (by simp; omega)
      rw [List.getElem?_cons_succ] at g0
      refine ⟨e, g0, g1, fun h0 => ?_⟩
      obtain ⟨c', g3, g4⟩ := g2 (by omega)
      rw [show j + 1 - 1 = (j - 1) + 1 by omega, List.getElem?_cons_succ] at g3
      exact ⟨c', g3, g4⟩
  · rintro ⟨h1, h2, h3⟩ j hj
    cases j with
    | zero => exact ⟨c, rfl, h1, fun h => absurd h (by decide)⟩
    | succ j =>
      obtain ⟨e, g0, g1, g2⟩ := h3 j (by simp at hj; omega)
      refine ⟨e, by rw [List.getElem?_cons_succ]; exact g0, g1, fun _ => ?_⟩
      cases j with
      | zero => exact ⟨c, rfl, h2 e g0⟩
      | succ j => obtain ⟨d, g3, g4⟩ := g2 (by omega); exact ⟨d, by simpa using g3, g4⟩
theorem done_iff : ∀ {l : List Dn}, isDone l ↔ (∀ c ∈ l, okD c) ∧ upD l
  | [] => ⟨fun _ => ⟨by simp, .nil⟩, fun _ j hj => by simp at hj⟩
  | c :: l => by
    rw [isDone_cons, done_iff (l := l), upD_cons]
    constructor
    · rintro ⟨h1, h2, h3, h4⟩
      refine ⟨by simpa using ⟨h1, h3⟩, fun d hd => ?_, h4⟩
      cases l with
      | nil => simp at hd
      | cons e l =>
        have he := h2 e rfl
        rcases List.mem_cons.1 hd with rfl | hd
        · exact he
        · exact Int.lt_trans he ((upD_cons.1 h4).1 d hd)
    · rintro ⟨h1, h2, h4⟩
      exact ⟨h1 c (by simp), fun d hd => h2 d (List.mem_of_getElem? hd), fun d hd => h1 d (by simp [hd]), h4⟩
end Go.Proofs
/- once: one more in its session's place, both joined: walked. -/

set_option linter.all false
set_option maxRecDepth 100000
namespace Go.Proofs
open Go Go.Ev
variable {H : Heap}

theorem clo57 : CloFn Tryz.prog 108 6 72 [.int .i64 0, .int .i64 0, .int .i64 0, .str [], .int .i64 0, .nils] := ⟨⟨Tryz.f108, Tryz.func108, by kernel_rfl, by kernel_rfl⟩, rfl, by decide⟩
end Go.Proofs
/- once: how a request stands: walked. -/

set_option linter.all false
set_option linter.all false
set_option maxRecDepth 100000
namespace Go.Proofs
open Go Go.Ev
variable {H : Heap}

theorem clo55 : CloFn Tryz.prog 109 3 40 [.str [], .str [], .int .i64 0] := ⟨⟨Tryz.f109, Tryz.func109, by kernel_rfl, by kernel_rfl⟩, rfl, by decide⟩
end Go.Proofs
/- once: what was done in one of two is done in both joined: the plain law and the walk. -/

set_option linter.all false
set_option linter.all false
set_option maxRecDepth 100000
namespace Go.Proofs
open Go Go.Ev
variable {H : Heap}

def bare (d : Dn) : Dn := ⟨d.ses, 0, zeroA⟩
end Go.Proofs
