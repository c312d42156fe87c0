/- The told package variable: what a law's condition gives; a world that meets it. -/
import Derived.Test.YtkhaejbkdgbjcaaGreatDoorZ15
import Derived.Test.YtkhaejbkdgbjcaaGreatDoorProg
import Derived.Test.YtkhaejbkdgbjcaaGreatDoorRows
import Derived.Test.YtkhaejbkdgbjcaaGreatDoorTie
import Derived.KernelRfl
import Derived.ChangeSame
import Derived.ChangeVars
import Derived.RowKit
import Derived.LaidLaws
import Derived.LaidHandle
import Derived.SevenTiedAt
import Derived.JoinedOf
set_option linter.all false
set_option maxRecDepth 100000
namespace Go.Proofs.YtkhaejbkdgbjcaaGreatDoor
open Go Go.Ev Go.ChangeShapes Go.WideShapes Go.ChangeAt Go.RowKit
theorem Tryz.own : ownKnob Tryz.prog.godebug = none := by kernel_rfl
theorem Tryz.laidOut : laidOutB Tryz.prog = true := by kernel_rfl
theorem Tryz.et : Tryz.prog.globalNamed "errors.errorType" = some 0 := by kernel_rfl
theorem Tryz.rt : (Tryz.prog.cutTypes.find? (·.1 == "internal/reflectlite.rtype")).map (·.2) = some 242 := by kernel_rfl
theorem Tryz.size : Tryz.prog.types.size = 389 := by kernel_rfl
theorem Tryz.oneRow : ((List.range 389).filter fun t => Tryz.prog.rowNamed t [101, 114, 114, 111, 114]) = [72] := by kernel_rfl
/-- what is told -/
def laid0 : List (String × DataW Unit) := [("errors.errorType", Rows.laid_errors_errorType)]
/-- the variable's one cell -/
theorem handle_of_laid {W : World} (h : laidMetH Tryz.prog laid0 W) : W.cell? ⟨0, 0, none⟩ = some (.iface 242 (.agg #[.pointer (some ⟨2, 72, none⟩)])) := by
  have h' : laidMet Tryz.prog [] W ∧ handlesMet Tryz.prog laid0 W := h
  obtain ⟨name, u, ty, e1, e2, e3, e4, e5⟩ := h'.2 _ (List.mem_singleton.2 rfl)
  have en : name = [101, 114, 114, 111, 114] := (Option.some.inj e1).symm
  subst en
  obtain rfl := Option.some.inj (Tryz.rt.symm.trans e2)
  have hm : ty ∈ (List.range 389).filter fun t => Tryz.prog.rowNamed t [101, 114, 114, 111, 114] := List.mem_filter.2 ⟨List.mem_range.2 (by rw [← Tryz.size]; exact e3), e4⟩
  rw [Tryz.oneRow] at hm
  obtain rfl := List.mem_singleton.1 hm
  have hh : typeHandle Tryz.prog 72 = .pointer (some ⟨2, 72, none⟩) := by kernel_rfl
  rw [hh] at e5
  simpa using World.var?_cell Tryz.et e5 0
theorem rom_of_laid {W : World} (h : laidMetH Tryz.prog laid0 W) : ∀ g v, (g, v) ∈ romOf → W.cell? ⟨g, 0, none⟩ = some v := by
  intro g v hm
  have hm : (g, v) ∈ [(0, Value.iface 242 (.agg #[.pointer (some ⟨2, 72, none⟩)]))] := hm
  cases List.mem_singleton.1 hm
  exact handle_of_laid h
/-- a world that meets it -/
noncomputable def laidWorld (os : Os) : World :=
  let w0 := World.holding Tryz.prog os ⟨#[], #[], []⟩
  { w0 with heap := w0.heap.modify 0 fun
      | .cells _ t frozen => .cells #[.iface 242 (.agg #[.pointer (some ⟨2, 72, none⟩)])] t frozen
      | o => o }
theorem laidWorld_met (os : Os) (args : Array Value) : laidMetH Tryz.prog laid0 ((laidWorld os).forCall (fun _ _ => 0) ⟨#[], args, []⟩).memory :=
  laidMetH_of_parts (laidMet_nil _ _) (by kernel_rfl)
end Go.Proofs.YtkhaejbkdgbjcaaGreatDoor
/- Numbers that are given, opened. -/

set_option linter.all false
set_option maxRecDepth 100000
namespace Go.Ev
open Go.ChangeShapes Go.WideShapes Go.RowKit
variable {P : Program} {W : World}
/-- a byte that is given -/
theorem open_u8 {r : Reach} {b0 : Nat} {t : TypeId} {v : Value} (ht : P.underlying t = some (.int .u8)) (h : Value.okWide P W r b0 t v) : ∃ n : Nat, n ≤ 255 ∧ v = .int .u8 n := by
  obtain ⟨m, rfl⟩ := okWide_int ht h
  simp only [Value.okWide, ht, Cell.okWide, Cell.ok] at h
  have h1 : (0 : Int) ≤ m := h.2.1
  have h2 : m ≤ (255 : Int) := h.2.2
  obtain ⟨n, rfl⟩ := Int.eq_ofNat_of_zero_le h1
  exact ⟨n, by omega, rfl⟩
end Go.Ev
/- Conversions, as rules. -/

set_option linter.all false
namespace Go.Ev
@[go_sem] theorem convR_int (k : IntKind) (x : X) (T : Tr AV) (H : Heap) : convR (.int k) x T H = withX T x .fail fun v => asIntC v .fail fun _ n => wrapC k n fun n => .val (.int k n) H := rfl
@[go_sem] theorem convR_b2s (x : X) (T : Tr AV) (H : Heap) : convR .b2s x T H = withX T x .fail fun v => asSliceC v .fail (.val (.str []) H) fun k off len _ _ _ => loadC H k off len .fail fun l => bytesC l .fail fun ns => .val (.str ns) H := rfl
end Go.Ev
/- Slices that may be nil, handled as one: rules. -/

set_option linter.all false
namespace Go.Ev
variable {P : Program} {H : Heap}
@[go_sem] theorem len_out (k : K) (e n : Nat) (G : Heap) : asSliceC (outV k e n) R1.fail (R1.val (AV.int IntKind.i64 0) G) (fun _ _ len _ _ _ => R1.val (AV.int IntKind.i64 (len : Int)) G) = R1.val (.int .i64 n) G := by
  cases n with
  | zero => rfl
  | succ n => rfl
theorem Arr.len {v : AV} {esz : Nat} {xs : List (List AV)} (h : Arr H esz v xs) (G : Heap) : asSliceC v R1.fail (R1.val (AV.int IntKind.i64 0) G) (fun _ _ len _ _ _ => R1.val (AV.int IntKind.i64 (len : Int)) G) = R1.val (.int .i64 xs.length) G := by
  rcases h.forms with ⟨rfl, rfl⟩ | ⟨k, off, ex, cap, rfl, _⟩ <;> rfl
theorem Arr.at {v : AV} {esz : Nat} {xs : List (List AV)} (hok : H.ok) (h : Arr H esz v xs) {j : Nat} (hj : j < xs.length) : ∃ k r ex cap wr rows, v = .slice k (r * esz) xs.length esz ex cap ∧ (∀ top σ, rho H top σ k = k) ∧ (∀ L, (H.ext L).get k = some (.row wr esz rows)) ∧ rows[r + j]? = some xs[j] := by
  obtain ⟨k, r, ex, cap, wr, rows, e, hk, hg, _, hat⟩ := h.pick hj
  exact ⟨k, r, ex, cap, wr, rows, e, fun _ _ => rho_old hk, Heap.get_ext_old hok hg, by rw [hat j hj, List.getElem?_eq_getElem hj]⟩
/-- the blocks that are kept, one after the other -/
def WkB (l : List Blk) (ρ : K → K) : List Blk → List Nat → Prop
  | b :: bs, i :: σ => (b.live → l[i]? = some (b.ren ρ)) ∧ WkB l ρ bs σ
  | _, _ => True
@[go_sem] theorem WkB_nil (l : List Blk) (ρ : K → K) (σ : List Nat) : WkB l ρ [] σ = True := by cases σ <;> rfl
@[go_sem] theorem WkB_cons (l : List Blk) (ρ : K → K) (b bs i σ) : WkB l ρ (b :: bs) (i :: σ) = ((b.live → l[i]? = some (b.ren ρ)) ∧ WkB l ρ bs σ) := rfl
theorem WkB.all {l : List Blk} {ρ : K → K} : ∀ {bs : List Blk} {σ : List Nat}, WkB l ρ bs σ → ∀ p ∈ bs.zip σ, p.1.live → l[p.2]? = some (p.1.ren ρ)
  | [], _, _, p, hp => by simp at hp
  | _ :: _, [], _, p, hp => by simp at hp
  | b :: bs, i :: σ, h, p, hp => by
    rw [List.zip_cons_cons, List.mem_cons] at hp
    rcases hp with rfl | hp
    · exact h.1
    · exact WkB.all h.2 p hp
theorem Wk.of {H : Heap} {T : Tr AV} {l : List Blk} {ts : List (K × AV)} {l2 : List Blk} {σ : List Nat} (h1 : l2.length = σ.length) (h2 : σ.Nodup) (h3 : ∀ p ∈ ts, T.get p.1 = some (p.2.ren (rho H l.length σ))) (h4 : WkB l (rho H l.length σ) l2 σ) : Wk H T l ts l2 σ := .mk' h1 h2 h3 h4.all
end Go.Ev
/- A slice of one's own: nil, empty, or with elements; what makes one, what puts one in. -/


set_option linter.all false
namespace Go.Ev
variable {P : Program} {H : Heap}
/-- a slice of one's own: an empty one is nil, or has room for nothing -/
def zV (z : Bool) (k : K) (esz n : Nat) : AV := match n with
  | 0 => if z then .nils else .slice k 0 0 esz true 0
  | n + 1 => .slice k 0 (n + 1) esz false (n + 1)
@[go_sem] theorem len_z (z : Bool) (k : K) (e n : Nat) (G : Heap) : asSliceC (zV z k e n) R1.fail (R1.val (AV.int IntKind.i64 0) G) (fun _ _ len _ _ _ => R1.val (AV.int IntKind.i64 (len : Int)) G) = R1.val (.int .i64 n) G := by
  cases n with
  | zero => cases z <;> rfl
  | succ n => rfl
@[go_sem] theorem bin_half {β : Type} (ek : EK) (pk : Option (List LK)) (lit : Bool) (a : Int) (f : β) (c : AV → β) : binV P ek pk lit .shr (.int .u64 a) (.int .u64 1) f c = c (.int .u64 (a.fdiv 2)) := bin_shr ek pk lit .u64 a f c .u64 1
@[go_sem] theorem max_int {β : Type} (k : IntKind) (a b : Int) (f : β) (c : AV → β) : mm2 true (.int k a) (.int k b) f c = c (.int k (max a b)) := by
  show bif' true (ltI a b fun z => bif' z (c (.int k b)) (c (.int k a))) (ltI b a fun z => bif' z (c (.int k b)) (c (.int k a))) = _
  rw [bif_true, ltI_eq, bif_eq]
  by_cases h : a < b
  · rw [decide_eq_true h, if_pos rfl, Int.max_eq_right (by omega)]
  · rw [decide_eq_false h, if_neg (by decide), Int.max_eq_left (by omega)]
@[go_sem low] theorem readC_first {β : Type} (f : β) (esz : Nat) (rows : List (List AV)) (q n : Nat) (c : List AV → β) (hp : q < esz) (hn : q + n ≤ esz) : readC f esz rows q n c = optC rows[0]? f fun row => bif' (Bool.and (Nat.beq q 0) (Nat.beq n esz)) (c row) (takeC f n (dropL q row) c) := by
  have := readC_at f esz rows 0 q n c hp hn
  rwa [Nat.zero_mul, Nat.zero_add] at this
end Go.Ev
/- A contract of the kit's own, as a triple: what a function hands back that lets all old blocks alone. -/


set_option linter.all false
namespace Go.Ev
variable {P : Program} {φ : Phi} {H : Heap} {w u : World}
theorem WRel.grows (hw : WRel P φ H w) (hs : w.heap.size ≤ u.heap.size) (hk : ∀ b, b < w.heap.size → u.heap[b]? = w.heap[b]?) : WRel P φ H u := by
  refine ⟨⟨hw.dom, hw.top, fun k b a hg ha => BlkRel.congr (w := w) (hk _ (hw.size k a ha)) (hw.blk k b a hg ha), hw.inj, fun k a ha => Nat.lt_of_lt_of_le (hw.size k a ha) hs⟩, fun g v hm => ?_⟩
  obtain ⟨h1, h2⟩ := hw.rom g v hm
  refine ⟨?_, h2⟩
  have hlt := cell_in h1
  unfold World.cell? at h1 ⊢
  rw [hk g hlt]; exact h1
/-- old blocks as they were, new ones behind -/
structure Grows (w u : World) : Prop where
  size : w.heap.size ≤ u.heap.size
  old : ∀ b, b < w.heap.size → u.heap[b]? = w.heap[b]?
  os : u.os = w.os
  tape : u.tape = w.tape
  output : u.output = w.output
theorem Grows.refl (w : World) : Grows w w := ⟨Nat.le_refl _, fun _ _ => rfl, rfl, rfl, rfl⟩
theorem Grows.trans {w u v : World} (a : Grows w u) (b : Grows u v) : Grows w v := ⟨Nat.le_trans a.size b.size, fun x hx => by rw [b.old x (Nat.lt_of_lt_of_le hx a.size), a.old x hx], b.os.trans a.os, b.tape.trans a.tape, b.output.trans a.output⟩
theorem Grows.alloc (w : World) (o : Obj) : Grows w (w.alloc o) := by
  refine ⟨?_, fun b hb => ?_, rfl, rfl, rfl⟩
  · simp
  · show (w.heap.push o)[b]? = _
    rw [Array.getElem?_push, if_neg (by omega)]
theorem FnOk.of_calls {f : FuncId} {args : List AV} {v : AV}
    (h : ∀ φ w args', VRels P φ args args'.toList → WRel P φ H w → Calls P f args' w fun e u => (∃ v', e = .returned v' ∧ VRel P φ v v') ∧ Grows w u) : FnOk P f args H fun r G => r = v ∧ G = H := by
  intro φ w args' ha hw
  refine (h φ w args' ha hw).mono ?_
  rintro e u ⟨⟨v', rfl, hv⟩, hg⟩
  refine ⟨v, H, ⟨rfl, rfl⟩, φ, v', rfl, hv, hw.grows hg.size hg.old, ⟨fun _ _ => rfl, Nat.le_refl _, hg.size, fun b hb _ => hg.old b hb, fun _ _ _ => rfl, fun _ _ h => h, hg.os, hg.tape, hg.output⟩⟩
end Go.Ev
/- rules that all steps are reckoned with. -/


set_option linter.all false
attribute [go_sem_proc] Nat.reduceAdd Nat.reduceSub Nat.reduceMul Nat.reduceDiv Nat.reduceMod Nat.reduceEqDiff Nat.reduceLeDiff Nat.reduceLT Int.reduceLT Int.reduceLE Int.reduceEq Int.reduceToNat reduceIte reduceCtorEq
attribute [go_sem] List.length_nil List.map_nil List.length_cons List.map_cons List.replicate_succ List.replicate_zero List.set_cons_zero List.set_cons_succ List.take_succ_cons List.take_zero List.take_nil List.length_append List.map_append List.cons_append List.nil_append List.drop_succ_cons List.drop_zero List.append_nil List.getElem?_cons_zero List.getElem?_cons_succ eq_self true_implies not_true_eq_false not_false_eq_true false_implies and_true true_and decide_true decide_false Bool.not_true Bool.not_false
/- Code laid out by reckoning it where it is wanted. -/

set_option linter.all false
set_option maxRecDepth 100000
namespace Go.Ev
open K
theorem K.inj : ∀ {a b : K}, a.toNat = b.toNat → a = b := by
  intro a
  induction a with
  | z => intro b h; cases b <;> simp [K.toNat] at h ⊢ <;> (have := K.toNat_pos ‹K›; omega)
  | o a ih => intro b h; cases b <;> simp [K.toNat] at h ⊢ <;> first | exact ih (by omega) | (have := K.toNat_pos a; omega) | omega
  | i a ih => intro b h; cases b <;> simp [K.toNat] at h ⊢ <;> first | exact ih (by omega) | (have := K.toNat_pos a; omega) | omega
theorem keyOf_o {n : Nat} (h : n % 2 = 1) : keyOf n = (keyOf ((n - 1) / 2)).o := by
  apply K.inj; rw [toNat_keyOf]; show _ = 2 * (keyOf ((n - 1) / 2)).toNat; rw [toNat_keyOf]; omega
theorem keyOf_i {n : Nat} (h : n % 2 = 0) (h0 : ¬ n = 0) : keyOf n = (keyOf (n / 2 - 1)).i := by
  apply K.inj; rw [toNat_keyOf]; show _ = 2 * (keyOf (n / 2 - 1)).toNat + 1; rw [toNat_keyOf]; omega
theorem keyOf_z : keyOf 0 = z := rfl
def CCz (P : Program) (f : Func) (n : Nat) (o : Option CC) : Prop := ∀ c, o = some c → CCok P f n c
theorem CCz.go {P : Program} {f : Func} {n : Nat} {c : CC} (h : CCz P f n (match f.body with | some code => comp P n code | none => none) → CCz P f n (some c)) : CCok P f n c := h (fun _ h => h) _ rfl
/-- code, reckoned where it stands -/
noncomputable def mkC (P : Program) (f : Func) (n : Nat) {c : CC} (h : CCok P f n c := by
  apply CCz.go
  intro h
  conv at h => arg 4; whnf
  simp only [go_sem, Array.reduceGetElem, Nat.reduceSucc, Option.map_some, Option.map_none, cloD, quietOp, allocOp, bif_true, bif_false, isK, Bool.or_true, Bool.or_false, Bool.true_or, Bool.false_or, List.map_cons, List.map_nil, UInt8.reduceToNat, List.append_eq, List.cons_append, List.nil_append] at h
  repeat (conv at h => pattern (lnOf _ _); whnf)
  repeat (conv at h => pattern (ekOf _ _); whnf)
  repeat (conv at h => pattern (plainK _ _); whnf)
  repeat (conv at h => pattern (cvOf _ _ _); whnf)
  repeat (conv at h => pattern (isArr1 _ _); whnf)
  repeat (conv at h => pattern (TypeInfo.size _); whnf)
  repeat (conv at h => pattern (TypeInfo.bytes _); whnf)
  repeat (conv at h => pattern (Field.offset _); whnf)
  simp only [go_sem, Array.reduceGetElem, Nat.reduceSucc, Option.map_some, Option.map_none, cloD, quietOp, allocOp, bif_true, bif_false, isK, Bool.or_true, Bool.or_false, Bool.true_or, Bool.false_or, List.map_cons, List.map_nil, UInt8.reduceToNat, List.append_eq, List.cons_append, List.nil_append, keyOf_z, keyOf_o, keyOf_i, Nat.reduceMod, Nat.reduceDiv, Nat.reduceSub, Nat.reduceEqDiff, not_false_eq_true] at h
  exact h) : CC := c
@[go_sem] theorem mkC_eq {P : Program} {f : Func} {n : Nat} {c : CC} (h : CCok P f n c) : mkC P f n h = c := rfl
theorem mkC_ok {P : Program} {f : Func} {n : Nat} {c : CC} (h : CCok P f n c) : CCok P f n (mkC P f n h) := h
end Go.Ev
/- The laid-out code of the functions that are walked. -/


set_option linter.all false
set_option maxRecDepth 100000
namespace Go.Proofs
open Go Go.Ev K
noncomputable def C5 := mkC Tryz.prog Tryz.f5 122
theorem C5ok : CCok Tryz.prog Tryz.f5 122 C5 := mkC_ok _
theorem R5ok : resKs Tryz.prog Tryz.f5.results.toList = some [(RK.tmp z.o.o.i)] := by kernel_rfl
noncomputable def C17 := mkC Tryz.prog Tryz.f17 8
theorem C17ok : CCok Tryz.prog Tryz.f17 8 C17 := mkC_ok _
theorem R17ok : resKs Tryz.prog Tryz.f17.results.toList = some [(RK.cell z.o.i true 24)] := by kernel_rfl
@[go_sem] theorem call8 (a H) : callC Tryz.prog 8 a H = .call 8 a := callC_ok (by kernel_rfl) a H
@[go_sem] theorem call9 (a H) : callC Tryz.prog 9 a H = .call 9 a := callC_ok (by kernel_rfl) a H
@[go_sem] theorem call14 (a H) : callC Tryz.prog 14 a H = .call 14 a := callC_ok (by kernel_rfl) a H
@[go_sem] theorem call15 (a H) : callC Tryz.prog 15 a H = .call 15 a := callC_ok (by kernel_rfl) a H
@[go_sem] theorem call17 (a H) : callC Tryz.prog 17 a H = .call 17 a := callC_ok (by kernel_rfl) a H
end Go.Proofs
/- Laid-out code reckoned whole; a call that has no addresses, in any memory. -/

set_option linter.all false
namespace Go.Ev
variable {P : Program} {φ ψ : Phi} {H : Heap} {w u : World} {T : Tr AV}

noncomputable def evC (E : FuncId → List AV → Heap → RC) (n : Nat) : CC → Tr AV → Heap → Res :=
  Nat.rec (motive := fun _ => CC → Tr AV → Heap → Res) (fun _ _ _ => .fail) (fun _ ih c T H => CC.rec (motive := fun _ => Res)
    (.ok .norm T H) (.ok .ret T H) (fun n => .ok (.exit n) T H)
    (fun l => stepsC eqAV E l T H .fail fun T H => .ok .norm T H) (fun l => stepsC eqAV E l T H .fail fun T H => .ok .norm T H)
    (fun x y _ _ => onNorm (ih x T H) (ih y)) (fun c x y _ _ => onCond (some c) T (ih x T H) (ih y T H))
    (fun id x _ => onBlock (ih x T H) id) (fun x _ => onNorm (ih x T H) (ih (.loop x))) c) n

theorem steps_goes {E : FuncId → List AV → Heap → RC} (hE : Good P E) : ∀ (l : List Stp) (T : Tr AV) (H : Heap) {e : Ex} {T' : Tr AV} {H' : Heap} {K : Tr AV → Heap → Prop},
    stepsC eqAV E l T H .fail (fun T H => Res.ok .norm T H) = .ok e T' H' → (e = .norm → K T' H') → Stp.goes P l T H K
  | [], T, H, e, T', H', K, h, hk => by
    have h : Res.ok .norm T H = .ok e T' H' := h
    cases h; exact hk rfl
  | .mk g dst gd re :: l, T, H, e, T', H', K, h, hk => by
    have h : gdC T gd .fail
      (R1.rec (motive := fun _ => Res) .fail (fun v G => putT T dst v fun T => reC eqAV T G re .fail (stepsC eqAV E l T G .fail fun T H => Res.ok .norm T H)) (fun fn args => RC.rec (motive := fun _ => Res) .fail (fun v G => putT T dst v fun T => reC eqAV T G re .fail (stepsC eqAV E l T G .fail fun T H => Res.ok .norm T H)) (E fn args H)) (g T H))
      (putT T dst (.tup []) fun T => stepsC eqAV E l T H .fail fun T H => Res.ok .norm T H) = .ok e T' H' := h
    show gdC T gd False ((g T H).go P H fun v G => putT T dst v fun T => Stp.goes P l T G K) (putT T dst (.tup []) fun T => Stp.goes P l T H K)
    rcases gdC_sel T gd with h1 | h1 | h1 <;> rw [h1] at h ⊢
    · cases h
    · cases hg : g T H with
      | fail => rw [hg] at h; cases h
      | val v G =>
        rw [hg] at h
        have h : (putT T dst v fun T => reC eqAV T G re .fail (stepsC eqAV E l T G .fail fun T H => Res.ok .norm T H)) = .ok e T' H' := h
        show putT T dst v fun T => Stp.goes P l T G K
        rw [putD_eq] at h ⊢
        rcases reC_sel eqAV (putD T dst v) G re with h2 | ⟨_, h2⟩ <;> rw [h2] at h
        · cases h
        · exact steps_goes hE l _ _ h hk
      | call f args =>
        rw [hg] at h
        cases hc : E f args H with
        | fail =>
          have h : RC.rec (motive := fun _ => Res) .fail (fun v G => putT T dst v fun T => reC eqAV T G re .fail (stepsC eqAV E l T G .fail fun T H => Res.ok .norm T H)) (E f args H) = .ok e T' H' := h
          rw [hc] at h; cases h
        | ok v G =>
          have h : RC.rec (motive := fun _ => Res) .fail (fun v G => putT T dst v fun T => reC eqAV T G re .fail (stepsC eqAV E l T G .fail fun T H => Res.ok .norm T H)) (E f args H) = .ok e T' H' := h
          rw [hc] at h
          have h : (putT T dst v fun T => reC eqAV T G re .fail (stepsC eqAV E l T G .fail fun T H => Res.ok .norm T H)) = .ok e T' H' := h
          have hf : FnOk P f args H fun v' G' => v' = v ∧ G' = G := fun φ w args' ha hw => (hE f args H v G hc φ w args' ha hw).mono fun e u hr => ⟨v, G, ⟨rfl, rfl⟩, hr⟩
          refine hf.mono ?_
          rintro v' G' ⟨rfl, rfl⟩
          rw [putD_eq] at h ⊢
          rcases reC_sel eqAV (putD T dst v') G' re with h2 | ⟨_, h2⟩ <;> rw [h2] at h
          · cases h
          · exact steps_goes hE l _ _ h hk
    · rw [putD_eq] at h ⊢
      exact steps_goes hE l _ _ h hk
theorem steps_goesD {E : FuncId → List AV → Heap → RC} : ∀ (l : List Stp) (T : Tr AV) (H : Heap) {e : Ex} {T' : Tr AV} {H' : Heap} {K : Tr AV → Heap → Prop},
    stepsC eqAV E l T H .fail (fun T H => Res.ok .norm T H) = .ok e T' H' → (e = .norm → K T' H') → Stp.goesD P E eqAV l T H K
  | [], T, H, e, T', H', K, h, hk => by
    have h : Res.ok .norm T H = .ok e T' H' := h
    cases h; exact hk rfl
  | .mk g dst gd re :: l, T, H, e, T', H', K, h, hk => by
    have h : gdC T gd .fail
      (R1.rec (motive := fun _ => Res) .fail (fun v G => putT T dst v fun T => reC eqAV T G re .fail (stepsC eqAV E l T G .fail fun T H => Res.ok .norm T H)) (fun fn args => RC.rec (motive := fun _ => Res) .fail (fun v G => putT T dst v fun T => reC eqAV T G re .fail (stepsC eqAV E l T G .fail fun T H => Res.ok .norm T H)) (E fn args H)) (g T H))
      (putT T dst (.tup []) fun T => stepsC eqAV E l T H .fail fun T H => Res.ok .norm T H) = .ok e T' H' := h
    show gdC T gd False
      (match g T H with
        | .fail => False
        | .val v G => putT T dst v fun T => reC eqAV T G re False (Stp.goesD P E eqAV l T G K)
        | .call f args => match E f args H with | .fail => False | .ok v G => putT T dst v fun T => reC eqAV T G re False (Stp.goesD P E eqAV l T G K))
      (putT T dst (.tup []) fun T => Stp.goesD P E eqAV l T H K)
    rcases gdC_sel T gd with h1 | h1 | h1 <;> rw [h1] at h ⊢
    · cases h
    · cases hg : g T H with
      | fail => rw [hg] at h; cases h
      | val v G =>
        rw [hg] at h
        have h : (putT T dst v fun T => reC eqAV T G re .fail (stepsC eqAV E l T G .fail fun T H => Res.ok .norm T H)) = .ok e T' H' := h
        show putT T dst v fun T => reC eqAV T G re False (Stp.goesD P E eqAV l T G K)
        rw [putD_eq] at h ⊢
        rcases reC_sel eqAV (putD T dst v) G re with h2 | ⟨_, h2⟩ <;> rw [h2] at h ⊢
        · cases h
        · exact steps_goesD l _ _ h hk
      | call f args =>
        rw [hg] at h
        have h : RC.rec (motive := fun _ => Res) .fail (fun v G => putT T dst v fun T => reC eqAV T G re .fail (stepsC eqAV E l T G .fail fun T H => Res.ok .norm T H)) (E f args H) = .ok e T' H' := h
        show (match E f args H with | .fail => False | .ok v G => putT T dst v fun T => reC eqAV T G re False (Stp.goesD P E eqAV l T G K))
        cases hc : E f args H with
        | fail => rw [hc] at h; cases h
        | ok v G =>
          rw [hc] at h
          have h : (putT T dst v fun T => reC eqAV T G re .fail (stepsC eqAV E l T G .fail fun T H => Res.ok .norm T H)) = .ok e T' H' := h
          show putT T dst v fun T => reC eqAV T G re False (Stp.goesD P E eqAV l T G K)
          rw [putD_eq] at h ⊢
          rcases reC_sel eqAV (putD T dst v) G re with h2 | ⟨_, h2⟩ <;> rw [h2] at h ⊢
          · cases h
          · exact steps_goesD l _ _ h hk
    · rw [putD_eq] at h ⊢
      exact steps_goesD l _ _ h hk
theorem steps_norm {E : FuncId → List AV → Heap → RC} {l : List Stp} {T : Tr AV} {H : Heap} {e : Ex} {T' : Tr AV} {H' : Heap} (h : stepsC eqAV E l T H .fail (fun T H => Res.ok .norm T H) = .ok e T' H') : e = .norm := by
  rw [stepsC_eq] at h
  split at h
  · cases h; rfl
  · cases h

theorem evC_sound {E : FuncId → List AV → Heap → RC} (hE : Good P E) {N : Nat} {H0 : Heap} : ∀ (n : Nat) (c : CC) (T : Tr AV) (H : Heap) {e : Ex} {T' : Tr AV} {H' : Heap}, evC E n c T H = .ok e T' H' →
    ∀ {Q : Ex → Tr AV → Heap → Prop}, Q e T' H' → TriC P N H0 c T H Q := by
  intro n
  induction n using Nat.strongRecOn with
  | _ n ih =>
    intro c T H e T' H' h Q hq
    cases n with
    | zero => cases h
    | succ n =>
      have ih' := fun c T H {e T' H'} h {Q} hq => ih n (Nat.lt_succ_self n) c T H (e := e) (T' := T') (H' := H') h (Q := Q) hq
      cases c with
      | skip => cases h; exact .skip hq
      | ret => cases h; exact .ret hq
      | exit m => cases h; exact .exit hq
      | region l =>
        have h : stepsC eqAV E l T H .fail (fun T H => Res.ok .norm T H) = .ok e T' H' := h
        have := steps_norm h; subst this
        exact .region (steps_goes hE l T H h fun _ => hq)
      | regionD l =>
        have h : stepsC eqAV E l T H .fail (fun T H => Res.ok .norm T H) = .ok e T' H' := h
        have := steps_norm h; subst this
        exact .regionD hE (fun a b e => eqAV_eq e) (steps_goesD l T H h fun _ => hq)
      | seq x y =>
        have h : onNorm (evC E n x T H) (evC E n y) = .ok e T' H' := h
        refine .seq ?_
        cases h1 : evC E n x T H with
        | fail => rw [h1] at h; cases h
        | ok e1 T1 H1 =>
          rw [h1] at h
          refine ih' x T H h1 ?_
          cases e1 with
          | norm => exact ih' y T1 H1 h hq
          | exit m => cases h; exact hq
          | ret => cases h; exact hq
      | cond o x y =>
        have h : (withX T o .fail fun v => asBoolC v .fail fun b => bif' b (evC E n x T H) (evC E n y T H)) = .ok e T' H' := h
        rcases withX_eq T o Res.fail (fun v => asBoolC v .fail fun b => bif' b (evC E n x T H) (evC E n y T H)) with ⟨_, e1⟩ | ⟨v, hv, e1⟩ <;> rw [e1] at h
        · cases h
        · cases v <;> first | (cases h; done) | skip
          rename_i b
          cases b
          · exact .condF hv (ih' y T H h hq)
          · exact .condT hv (ih' x T H h hq)
      | block id x =>
        have h : onBlock (evC E n x T H) id = .ok e T' H' := h
        refine .block ?_
        cases h1 : evC E n x T H with
        | fail => rw [h1] at h; cases h
        | ok e1 T1 H1 =>
          rw [h1] at h
          refine ih' x T H h1 ?_
          cases e1 with
          | norm => cases h; exact hq
          | exit m =>
            have h : bif' (Nat.beq m id) (.ok .norm T1 H1) (.ok (.exit m) T1 H1) = Res.ok e T' H' := h
            show (if m = id then _ else _)
            by_cases hm : m = id
            · rw [if_pos hm]; subst hm; rw [show Nat.beq m m = true from Nat.beq_refl m] at h; cases h; exact hq
            · rw [if_neg hm]
              have : Nat.beq m id = false := by cases hb : Nat.beq m id; rfl; exact absurd (Nat.eq_of_beq_eq_true hb) hm
              rw [this] at h; cases h; exact hq
          | ret => cases h; exact hq
      | loop x =>
        refine TriC.loop (fun m T H => m ≤ n + 1 ∧ ∃ e T' H', evC E m (.loop x) T H = .ok e T' H' ∧ Q e T' H') ?_ (m := n + 1) ⟨Nat.le_refl _, e, T', H', h, hq⟩
        rintro m T H ⟨hm, e, T', H', h, hq⟩
        cases m with
        | zero => cases h
        | succ m =>
          have h : onNorm (evC E m x T H) (evC E m (.loop x)) = .ok e T' H' := h
          cases h1 : evC E m x T H with
          | fail => rw [h1] at h; cases h
          | ok e1 T1 H1 =>
            rw [h1] at h
            refine ih m (by omega) x T H h1 ?_
            cases e1 with
            | norm => exact ⟨m, Nat.lt_succ_self m, by omega, e, T', H', h, hq⟩
            | exit k => cases h; exact hq
            | ret => cases h; exact hq

/-! ### A call that has no addresses -/
def AV.flat : AV → Bool
  | .bool _ | .int _ _ | .str _ | .nilp | .nils | .nilf | .nili | .nilm => true
  | _ => false
theorem flat_rel {v : AV} {x : Value} (hf : v.flat = true) (h : VRel P φ v x) (ψ : Phi) : VRel P ψ v x := by
  cases h <;> first | (cases hf; done) | skip
  · exact .bool _
  · exact .int _ _
  · exact .str _ _ (by assumption)
  · exact .nilp
  · exact .nils
  · exact .nilf
  · exact .nili
  · exact .nilm
theorem flats_rel (ψ : Phi) {l : List AV} {l' : List Value} (hf : l.all AV.flat = true) (h : VRels P φ l l') : VRels P ψ l l' := by
  induction l generalizing l' with
  | nil => cases h; exact .nil
  | cons v l ih =>
    cases h with
    | cons _ _ v' l' h hs =>
      rw [List.all_cons, Bool.and_eq_true] at hf
      exact .cons _ _ _ _ (flat_rel hf.1 h ψ) (ih hf.2 hs)
/-- memory without anything -/
noncomputable def hp0 : Heap := .mk .z .lf
theorem hp0_get (k : K) : hp0.get k = none := Tr.get_lf k
theorem WRel.to0 (hw : WRel P φ H w) : WRel P (fun _ => none) hp0 w := by
  refine ⟨⟨fun k a h => (by cases h), fun k b h => (by rw [hp0_get] at h; cases h), fun k b a h => (by rw [hp0_get] at h; cases h), fun j k c d x y _ h => (by rw [hp0_get] at h; cases h), fun k a h => (by cases h)⟩, fun g v hm => ⟨(hw.rom g v hm).1, ?_⟩⟩
  rintro ⟨k, c, a, hk, _⟩
  rw [hp0_get] at hk; cases hk
theorem FnOk.lift0 {f : FuncId} {args : List AV} {v : AV} (ha : args.all AV.flat = true) (hv : v.flat = true) (h : FnOk P f args hp0 fun r _ => r = v) : FnOk P f args H fun r G => r = v ∧ G = H := by
  intro φ w args' hargs hw
  refine (h (fun _ => none) w args' (flats_rel _ ha hargs) hw.to0).mono ?_
  rintro e u ⟨_, G, rfl, ψ, x, rfl, hx, hwu, hE⟩
  have hno : ∀ b, b < w.heap.size → u.heap[b]? = w.heap[b]? := by
    intro b hb
    refine hE.keeps b hb ?_
    rintro ⟨k, c, a, hk, _⟩
    rw [hp0_get] at hk; cases hk
  exact ⟨_, H, ⟨rfl, rfl⟩, φ, x, rfl, flat_rel hv hx φ, hw.grows hE.size hno, ⟨fun _ _ => rfl, Nat.le_refl _, hE.size, fun b hb _ => hno b hb, fun _ _ _ => rfl, fun _ _ h => h, hE.os, hE.tape, hE.output⟩⟩
end Go.Ev
/- Known answers handed to the evaluator; slices.Insert at a slice of one's own. -/

set_option linter.all false
namespace Go.Ev
variable {P : Program} {φ : Phi} {H : Heap}

noncomputable def X0 : Orc := fun _ _ _ => none
theorem good_X0 : GoodX P X0 := fun _ _ _ _ h => by cases h
/-- one function more is known -/
noncomputable def orX (F : FuncId) (A : List AV → Heap → Option RC) (X : Orc) : Orc := fun f args H => bif' (Nat.beq f F) (A args H) (X f args H)
theorem good_orX {F : FuncId} {A : List AV → Heap → Option RC} {X : Orc} (hA : ∀ args H v G, A args H = some (.ok v G) → FnOk P F args H fun v' G' => v' = v ∧ G' = G) (hX : GoodX P X) : GoodX P (orX F A X) := by
  intro f args H r h v G hr
  unfold orX at h
  cases hb : Nat.beq f F with
  | true =>
    rw [hb, bif_true] at h
    have := Nat.eq_of_beq_eq_true hb; subst this; subst hr
    exact hA args H v G h
  | false => rw [hb, bif_false] at h; exact hX f args H r h v G hr

noncomputable def insOwnA (esz bytes : Nat) (x : List AV) (kv k : K) (m n : Nat) (rows : List (List AV)) (H : Heap) : Option RC :=
  bif' (Nat.beq rows.length n) (bif' (K.beq kv k) none (bif' (Nat.ble m n) (bif' (Nat.ble (n + 1) 4294967295) (bif' (Nat.ble ((2 * (n + 1) + 192) * bytes) 281474976710656)
    (fL (rows.take m ++ x :: rows.drop m) fun rows => H.setC k .dead fun H => H.addC (.row true esz rows) fun k H => fN (n + 1) fun n => some (.ok (.slice k 0 n esz false n) H)) none) none) none)) none
noncomputable def insA (esz bytes : Nat) (args : List AV) (H : Heap) : Option RC :=
  match args with
  | [s, .int .i64 (.ofNat m), .slice kv 0 1 es true 1] => bif' (Nat.beq es esz) (match H.get kv with
    | some (.row true es1 [x]) => bif' (Nat.beq es1 esz) (match s with
      | .nils => bif' (Nat.beq m 0) (bif' (Nat.ble (194 * bytes) 281474976710656) (H.addC (.row true esz [x]) fun k H => some (.ok (.slice k 0 1 esz false 1) H)) none) none
      | .slice k 0 n es2 ex cap => bif' (Nat.beq es2 esz) (match H.get k with
        | some (.row true es3 rows) => bif' (Nat.beq es3 esz) (match n, ex, rows with
          | 0, true, [] => bif' (Nat.beq cap 0) (bif' (Nat.beq m 0) (bif' (Nat.ble (194 * bytes) 281474976710656) (H.addC (.row true esz [x]) fun k H => some (.ok (.slice k 0 1 esz false 1) H)) none) none) none
          | n + 1, false, rows => bif' (Nat.beq cap (n + 1)) (insOwnA esz bytes x kv k m (n + 1) rows H) none
          | _, _, _ => none) none
        | _ => none) none
      | _ => none) none
    | _ => none) none
  | _ => none
theorem insA_sound {F : FuncId} {esz bytes : Nat} {zero : List AV} (hf : InsFn P F esz bytes zero) (args : List AV) (H : Heap) (v : AV) (G : Heap) (h : insA esz bytes args H = some (.ok v G)) : FnOk P F args H fun v' G' => v' = v ∧ G' = G := by
  unfold insA at h
  split at h
  case h_2 => cases h
  rename_i s m kv es
  have b1 : ∀ {α : Type} (a b : Nat) (x : Option α) (y : α), bif' (Nat.beq a b) x none = some y → a = b ∧ x = some y := by
    intro α a b x y e
    cases hb : Nat.beq a b with
    | true => rw [hb] at e; exact ⟨Nat.eq_of_beq_eq_true hb, e⟩
    | false => rw [hb] at e; cases e
  have b2 : ∀ {α : Type} (a b : Nat) (x : Option α) (y : α), bif' (Nat.ble a b) x none = some y → a ≤ b ∧ x = some y := by
    intro α a b x y e
    cases hb : Nat.ble a b with
    | true => rw [hb] at e; exact ⟨Nat.le_of_ble_eq_true hb, e⟩
    | false => rw [hb] at e; cases e
  obtain ⟨rfl, h⟩ := b1 _ _ _ _ h
  split at h
  case h_2 => cases h
  rename_i es1 x hv
  obtain ⟨rfl, h⟩ := b1 _ _ _ _ h
  split at h
  case h_3 => cases h
  · obtain ⟨rfl, h⟩ := b1 _ _ _ _ h
    obtain ⟨hb, h⟩ := b2 _ _ _ _ h
    rw [Heap.addC_eq] at h
    cases h
    exact insert_nil hf hv hb
  · rename_i k n es2 ex cap g1 g2
    clear g1 g2
    obtain ⟨rfl, h⟩ := b1 _ _ _ _ h
    split at h
    case h_2 => cases h
    rename_i es3 rows hg
    obtain ⟨rfl, h⟩ := b1 _ _ _ _ h
    split at h
    case h_3 => cases h
    · obtain ⟨e1, h⟩ := b1 _ _ _ _ h
      obtain ⟨e2, h⟩ := b1 _ _ _ _ h
      obtain ⟨hb, h⟩ := b2 _ _ _ _ h
      rw [Heap.addC_eq] at h
      cases h
      rw [e1, e2]
      exact insert_zero hf hv hg hb
    · rename_i n rows'
      obtain ⟨e1, h⟩ := b1 _ _ _ _ h
      rw [e1]
      unfold insOwnA at h
      obtain ⟨hl, h⟩ := b1 _ _ _ _ h
      cases hk : K.beq kv k with
      | true => rw [hk] at h; cases h
      | false =>
      rw [hk, bif_false] at h
      have hkk : kv ≠ k := fun e => by rw [(K.beq_iff _ _).2 e] at hk; cases hk
      obtain ⟨hm, h⟩ := b2 _ _ _ _ h
      obtain ⟨hn, h⟩ := b2 _ _ _ _ h
      obtain ⟨hb, h⟩ := b2 _ _ _ _ h
      rw [fL_eq, Heap.setC_eq, Heap.addC_eq, fN_eq] at h
      cases h
      have := insert_own hf hkk hv hg (by omega) (by omega) (by omega) (by rw [hl]; exact hb) (i := m)
      rw [hl] at this
      exact this
end Go.Ev
/- Known answers: errors.Is and errors.As at numbers. -/

set_option linter.all false
namespace Go.Ev
variable {P : Program} {φ : Phi} {H : Heap} {w : World}
/-- errors.Is of a number (of type t), or none -/
noncomputable def isA (t : Nat) (args : List AV) (H : Heap) : Option RC :=
  match args with
  | [.nili, .iface t2 (.int .i64 b)] => bif' (Nat.beq t2 t) (some (.ok (.bool false) H)) none
  | [.iface t1 (.int .i64 a), .iface t2 (.int .i64 b)] => bif' (Nat.beq t1 t) (bif' (Nat.beq t2 t) (eqI a b fun z => some (.ok (.bool z) H)) none) none
  | _ => none
/-- errors.As of a number (of type t), or none, at a number's pointer (of type tp), at one of another type (tb) -/
noncomputable def asA (t tp tb : Nat) (args : List AV) (H : Heap) : Option RC :=
  match args with
  | [.nili, _] => some (.ok (.bool false) H)
  | [.iface t1 (.int .i64 a), .iface t2 (.ptr k 0)] => bif' (Nat.beq t1 t) (bif' (Nat.beq t2 tb) (some (.ok (.bool false) H)) (bif' (Nat.beq t2 tp)
    (match H.get k with
      | some (.row true 1 [[x]]) => H.setC k (.row true 1 [[.int .i64 a]]) fun H => some (.ok (.bool true) H)
      | _ => none) none)) none
  | _ => none
theorem cell_of_row (hw : WRel P φ H w) {k : K} {x : AV} {a : At} (hk : H.get k = some (.row true 1 [[x]])) (hφ : φ k = some a) : ∃ v, w.cell? ⟨a.b, a.o, none⟩ = some v ∧ VRel P φ x v ∧ w.frozen? ⟨a.b, a.o, none⟩ = false := by
  obtain ⟨hp, _, pre, vs, post, e, lo, hi, g1, g2, g3, g4, g5, g6⟩ := hw.blk k _ a hk hφ
  have g5 : VRels P φ [x] vs := g5
  cases g5 with
  | cons _ _ v l h1 h2 =>
    cases h2
    refine ⟨v, ?_, h1, ?_⟩
    · simp only [World.cell?, g1]
      simp [← g2]
    · simp only [World.frozen?, g1]
      have h4 := g4 rfl
      simp at g3 ⊢
      omega
/-- a call that writes a number into a cell -/
theorem FnOk.of_calls_set {f : FuncId} {args : List AV} {k : K} {x y v : AV} {y' : Value} (hk : H.get k = some (.row true 1 [[x]])) (hy : ∀ φ, VRel P φ y y') (hone : y'.oneCell' = true) (hv : ∀ φ, ∃ v', VRel P φ v v')
    (h : ∀ φ w args', VRels P φ args args'.toList → WRel P φ H w → ∃ a, φ k = some a ∧ ∀ old, w.cell? ⟨a.b, a.o, none⟩ = some old → w.frozen? ⟨a.b, a.o, none⟩ = false →
      Calls P f args' w fun e u => (∃ v', e = .returned v' ∧ VRel P φ v v') ∧ ∃ w4, Grows w w4 ∧ u = w4.setCell ⟨a.b, a.o, none⟩ y') :
    FnOk P f args H fun r G => r = v ∧ G = H.set k (.row true 1 [[y]]) := by
  intro φ w args' ha hw
  obtain ⟨a, hφ, hc⟩ := h φ w args' ha hw
  obtain ⟨old, h1, _, h2⟩ := cell_of_row hw hk hφ
  refine (hc old h1 h2).mono ?_
  rintro e u ⟨⟨v', rfl, hv'⟩, w4, hg, rfl⟩
  have hw4 := hw.grows hg.size hg.old
  obtain ⟨old4, h14, _, h24⟩ := cell_of_row hw4 hk hφ
  obtain ⟨u, hst, hwu, hE⟩ := storeCells_sound (off := 0) (vals := [y]) (vals' := [y']) (rows' := [[y]]) hw4 hk hφ (.cons _ _ _ _ (hy φ) .nil) (by intro z hz; rw [List.mem_singleton.1 hz]; exact hone) (put_rows 1 [[x]] [[y]] 0 (by intro z hz; rw [List.mem_singleton.1 hz]; rfl) (by intro z hz; rw [List.mem_singleton.1 hz]; rfl) (Nat.le_refl 1))
  have hst' : (storeCells ⟨a.b, a.o, none⟩ [y']).run P w4 = .ok () (w4.setCell ⟨a.b, a.o, none⟩ y') := by
    simp only [storeCells, Addr.add, Sem.run_bind, Nat.add_zero, if_true]
    rw [run_store P w4 _ _ _ hone, h14]
    simp [h24]
  rw [Nat.add_zero] at hst
  rw [hst] at hst'
  injection hst' with _ hu
  subst hu
  refine ⟨v, _, ⟨rfl, rfl⟩, φ, v', rfl, hv', hwu, ?_⟩
  exact ⟨hE.phi, hE.nx, Nat.le_trans hg.size hE.size, fun b hb hn => by rw [hE.keeps b (Nat.lt_of_lt_of_le hb hg.size) hn, hg.old b hb], hE.hidden, fun b hb ho => hE.own b (Nat.lt_of_lt_of_le hb hg.size) ho, hE.os.trans hg.os, hE.tape.trans hg.tape, hE.output.trans hg.output⟩
theorem two_args {φ : Phi} {a b : AV} {args : Array Value} (h : VRels P φ [a, b] args.toList) : ∃ v u, args = #[v, u] ∧ VRel P φ a v ∧ VRel P φ b u := by
  cases hl : args.toList with
  | nil => rw [hl] at h; cases h
  | cons v l =>
    rw [hl] at h
    cases h with
    | cons _ _ _ _ h1 h2 =>
      cases h2 with
      | cons _ _ u _ h3 h4 =>
        cases h4
        exact ⟨v, u, by rw [← Array.toArray_toList (xs := args), hl], h1, h3⟩
/-- the answer is yes -/
noncomputable def okB (r : RC) : Bool := RC.rec (motive := fun _ => Bool) false (fun v _ => asBoolC v false fun b => b) r
theorem okB_eq {r : RC} (h : okB r = true) : ∃ G, r = .ok (.bool true) G := by
  cases r with
  | fail => cases h
  | ok v G =>
    cases v <;> first | (cases h; done) | skip
    rename_i b
    cases b
    · cases h
    · exact ⟨G, rfl⟩
theorem FnOk.of_evB {X : Orc} (hX : GoodX P X) {n : Nat} {f : FuncId} {args : List AV} (h : okB (evFn P X n f args H) = true) : FnOk P f args H fun v _ => v = .bool true := by
  obtain ⟨G, hG⟩ := okB_eq h
  exact (FnOk.of_ev hX hG).mono fun _ _ h => h.1
end Go.Ev
