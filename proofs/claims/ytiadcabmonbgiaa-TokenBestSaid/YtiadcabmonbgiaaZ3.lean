/- copy; make; lengths; the lesser, the greater; functions as values; type assertions. -/
import Derived.Test.YtiadcabmonbgiaaZ2
namespace Go.Ev
variable {P : Program} {φ : Phi} {H : Heap} {w u : World} {T : Tr AV} {a : Act}

/-! ### copy -/
noncomputable def minN (a b : Nat) : Nat := bif' (Nat.ble a b) a b
theorem minN_eq (a b : Nat) : minN a b = Nat.min a b := by
  unfold minN
  rw [bif_eq]
  split
  · rename_i h; have := Nat.le_of_ble_eq_true h; exact (Nat.min_eq_left this).symm
  · rename_i h
    have : b ≤ a := by
      rcases Nat.le_total a b with h' | h'
      · exact absurd (Nat.ble_eq_true_of_le h') h
      · exact h'
    exact (Nat.min_eq_right this).symm

noncomputable def goI (n : Nat) (H : Heap) : R1 := .val (.int .i64 (.ofNat n)) H
/-- the pieces of a slice, as many as fit -/
noncomputable def cpyR (esz : Nat) (x y : X) (T : Tr AV) (H : Heap) : R1 := withX T x .fail fun v => withX T y .fail fun u =>
  asSliceC v .fail (asSliceC u .fail (goI 0 H) fun _ _ _ _ _ _ => goI 0 H) fun k off len es _ _ => asSliceC u .fail (goI 0 H) fun k2 off2 len2 es2 _ _ => fN (minN len2 len) fun n =>
    bif' (Nat.beq n 0) (goI 0 H) (bif' (Bool.and (Nat.beq es esz) (Nat.beq es2 esz))
      (rowsC H k2 off2 n esz .fail fun _ _ r2 => rowsC H k off n esz .fail fun wr rows _ => bif' wr (putC .fail r2 (off / esz) rows fun rows => H.setC k (.row true esz rows) fun G => goI n G) .fail) .fail)

theorem run_copy {dT sT e ty : TypeId} (hu : P.underlying dT = some (.slice e)) {esz : Nat} (hn : szT P e = some esz) {base : Option Addr} {dl dc sl : Nat} {x : Value} {vs : List Value} (hl : (Builtin.lenOf x).run P w = .ok sl w)
    (hc : (Builtin.firstCells esz (Nat.min sl dl) x).run P w = .ok vs.toArray w) (hst : ∀ b, base = some b → (storeCells b vs).run P w = .ok () u) (hb : base = none → u = w) :
    (Builtin.copy_ #[dT, sT] ty #[.slice base dl dc, x]).run P w = .ok (goInt (Nat.min sl dl)) u := by
  unfold Builtin.copy_
  cases base with
  | none => simp [run_underlying hu, run_sizeOf' hn, hl, hc, hb rfl]
  | some b => simp [run_underlying hu, run_sizeOf' hn, hl, hc, hst b rfl]

theorem goI_rel (n : Nat) : VRel P φ (.int .i64 (.ofNat n)) (goInt (n : Int)) := .int _ _

theorem cpy_sound (hw : WRel P φ H w) {dT sT e ty : TypeId} (hu : P.underlying dT = some (.slice e)) {esz : Nat} (hn : szT P e = some esz) {o1 o2 : Operand} {x y : X} (hx : cX o1 = some x) (hy : cX o2 = some y) (ht : TRelAt P φ T a.tmps (· ∈ tmpsOf [o1, o2])) :
    Ran P φ H w (do return Next.value (← Builtin.copy_ #[dT, sT] ty #[a.eval o1, a.eval o2])) (cpyR esz x y T H) := by
  unfold cpyR
  rcases withX_eq T x R1.fail _ with ⟨_, e'⟩ | ⟨v, hv, e'⟩ <;> rw [e'] <;> clear e'
  · exact .fail
  rcases withX_eq T y R1.fail _ with ⟨_, e'⟩ | ⟨q, hq, e'⟩ <;> rw [e'] <;> clear e'
  · exact .fail
  have hv' := evX_sound (sub2a ht) hx hv
  have hq' := evX_sound (sub2b ht) hy hq
  generalize a.eval o1 = y1 at *
  generalize a.eval o2 = y2 at *
  have zero : ∀ (base : Option Addr) (dl dc sl : Nat) (b2 : Option Addr) (c2 : Nat), Nat.min sl dl = 0 → Ran P φ H w (do return Next.value (← Builtin.copy_ #[dT, sT] ty #[.slice base dl dc, .slice b2 sl c2])) (goI 0 H) := by
    intro base dl dc sl b2 c2 h0
    refine .pure hw (run_v ?_) (goI_rel 0)
    have := run_copy (P := P) (w := w) (u := w) (ty := ty) (sT := sT) (base := base) (dl := dl) (dc := dc) (sl := sl) (x := .slice b2 sl c2) (vs := []) hu hn rfl (by rw [h0]; cases b2 <;> simp [Builtin.firstCells, loadCells, loadCellsFrom]) (fun b _ => rfl) (fun _ => rfl)
    rw [h0] at this
    exact this
  cases hv' <;> try exact .fail
  · -- nil
    cases hq' <;> try exact .fail
    · exact zero _ _ _ _ _ _ rfl
    · exact zero _ _ _ _ _ _ (Nat.min_zero _)
    · exact zero _ _ _ _ _ _ rfl
  · rename_i k off len es ex cap at_ c hk hxc hc hl hlen
    cases hq' <;> try exact .fail
    · exact zero _ _ _ _ _ _ (Nat.zero_min _)
    · rename_i k2 off2 len2 es2 ex2 cap2 at2 c2 hk2 hxc2 hc2 hl2 hlen2
      show Ran P φ H w _ (fN (minN len2 len) fun n =>
        bif' (Nat.beq n 0) (goI 0 H) (bif' (Bool.and (Nat.beq es esz) (Nat.beq es2 esz))
          (rowsC H k2 off2 n esz .fail fun _ _ r2 => rowsC H k off n esz .fail fun wr rows _ => bif' wr (putC .fail r2 (off / esz) rows fun rows => H.setC k (.row true esz rows) fun G => goI n G) .fail) .fail))
      rw [fN_eq, minN_eq]
      generalize hnm : Nat.min len2 len = n
      by_cases h0 : Nat.beq n 0 = true
      · rw [h0, bif_true]; rw [Nat.beq_eq] at h0; subst h0; exact zero _ _ _ _ _ _ hnm
      rw [eq_false_of_ne_true h0, bif_false]
      by_cases hes : Bool.and (Nat.beq es esz) (Nat.beq es2 esz) = true
      case neg => rw [eq_false_of_ne_true hes]; exact .fail
      rw [hes, bif_true]
      rcases rowsC_sound hw hk2 off2 n esz R1.fail (fun _ _ r2 => rowsC H k off n esz .fail fun wr rows _ => bif' wr (putC .fail r2 (off / esz) rows fun rows => H.setC k (.row true esz rows) fun G => goI n G) .fail) with e' | ⟨_, _, r2, v2, e', _, _, _, _, hrl2, hrr2, hv2, ho2, hload2, hvl2, _⟩ <;> rw [e'] <;> clear e'
      · exact .fail
      rcases rowsC_sound hw hk off n esz R1.fail (fun wr rows _ => bif' wr (putC .fail r2 (off / esz) rows fun rows => H.setC k (.row true esz rows) fun G => goI n G) .fail) with e' | ⟨wr, rows, r1, v1, e', hg, _, hoff, hle, _, _, _, _, _, _, _⟩ <;> rw [e'] <;> clear e'
      · exact .fail
      cases wr
      · exact .fail
      rw [bif_true, putC_eq]
      split
      case isFalse => exact .fail
      rename_i hput
      rw [Heap.setC_eq]
      have hrel := hw.blk k _ at_ hg hk
      have hwr := put_rows esz rows r2 (off / esz) hrel.len hrr2 hput
      obtain ⟨u, hst, hw', he⟩ := storeCells_sound hw hg hk hv2 ho2 hwr
      have hdm : off / esz * esz = off := by have := Nat.div_add_mod off esz; rw [hoff, Nat.add_zero, Nat.mul_comm] at this; exact this
      rw [hdm] at hst
      have hrun := run_copy (P := P) (w := w) (u := u) (ty := ty) (sT := sT) (base := some ⟨at_.b, at_.o + off, none⟩) (dl := len) (dc := c) (sl := len2) (x := .slice (some ⟨at2.b, at2.o + off2, none⟩) len2 c2) (vs := v2) hu hn rfl
        (by rw [hnm]; exact hload2 w.drawn) (fun b hb => by cases hb; exact hst) (fun h => by cases h)
      rw [hnm] at hrun
      exact .val _ _ _ _ _ _ (run_v hrun) (.inl rfl) hw' he (goI_rel n)
    · rename_i k2 off2 es2 ex2 at2 x2 hk2
      show Ran P φ H w _ (fN (minN 0 len) fun n => bif' (Nat.beq n 0) (goI 0 H) (bif' (Bool.and (Nat.beq es esz) (Nat.beq es2 esz)) (rowsC H k2 off2 n esz .fail fun _ _ r2 => rowsC H k off n esz .fail fun wr rows _ => bif' wr (putC .fail r2 (off / esz) rows fun rows => H.setC k (.row true esz rows) fun G => goI n G) .fail) .fail))
      rw [fN_eq, minN_eq, show Nat.min 0 len = 0 from Nat.zero_min _]
      exact zero _ _ _ _ _ _ (Nat.zero_min _)
  · rename_i k off es ex at_ x' hk
    cases hq' <;> try exact .fail
    · exact zero _ _ _ _ _ _ rfl
    · rename_i k2 off2 len2 es2 ex2 cap2 at2 c2 hk2 hxc2 hc2 hl2 hlen2
      show Ran P φ H w _ (fN (minN len2 0) fun n => bif' (Nat.beq n 0) (goI 0 H) (bif' (Bool.and (Nat.beq es esz) (Nat.beq es2 esz)) (rowsC H k2 off2 n esz .fail fun _ _ r2 => rowsC H k off n esz .fail fun wr rows _ => bif' wr (putC .fail r2 (off / esz) rows fun rows => H.setC k (.row true esz rows) fun G => goI n G) .fail) .fail))
      rw [fN_eq, minN_eq, show Nat.min len2 0 = 0 from Nat.min_zero _]
      exact zero _ _ _ _ _ _ (Nat.min_zero _)
    · exact zero _ _ _ _ _ _ rfl

/-! ### Lengths -/
inductive LnK where
  | no | str | slice | map | arr (n : Nat)
def lnOf (P : Program) (t : TypeId) : LnK := match P.underlying t with
  | some .string => .str
  | some (.slice _) => .slice
  | some (.map _ _) => .map
  | some (.array n _) => .arr n
  | _ => .no
noncomputable def lenR (lk : LnK) (x : X) (T : Tr AV) (H : Heap) : R1 := withX T x .fail fun v => LnK.rec (motive := fun _ => R1) .fail
  (asStrC v .fail fun l => fN l.length fun n => goI n H) (asSliceC v .fail (goI 0 H) fun _ _ len _ _ _ => goI len H)
  (asMapC v .fail (goI 0 H) fun k => Option.rec (motive := fun _ => R1) .fail (fun b => Blk.rec (motive := fun _ => R1) .fail (fun _ _ _ => .fail) (fun es => fN es.length fun n => goI n H) b) (H.get k)) (fun n => goI n H) lk
theorem ERel.length : ∀ {l : List (AV × AV)} {l' : List MapEntry}, ERel P φ l l' → l.length = l'.length
  | _, _, .nil => rfl
  | _, _, .cons _ _ _ _ _ _ _ h => by simp [ERel.length h]
theorem len_sound (hw : WRel P φ H w) {t ty : TypeId} {o : Operand} {x : X} (hx : cX o = some x) (ht : TRelAt P φ T a.tmps (· ∈ tmpsOf [o])) :
    Ran0 P φ H w (do return Next.value (← Builtin.len_ #[t] ty #[a.eval o])) (lenR (lnOf P t) x T H) := by
  unfold lenR
  rcases withX_eq T x R1.fail _ with ⟨_, e'⟩ | ⟨v, hv, e'⟩ <;> rw [e'] <;> clear e'
  · exact .fail
  have hv' := evX_sound ht hx hv
  generalize a.eval o = y at *
  unfold lnOf
  split <;> try exact .fail
  · rename_i hu
    show Ran0 P φ H w _ (asStrC v .fail fun l => fN l.length fun n => goI n H)
    cases hv' <;> try exact .fail
    rename_i l s h
    show Ran0 P φ H w _ (fN l.length fun n => goI n H)
    rw [fN_eq]
    have : l.length = s.size := by rw [← h, List.length_map]; rfl
    rw [this]
    exact .pure hw (run_v (by simp [Builtin.len_, run_underlying hu])) (goI_rel _)
  · rename_i e hu
    show Ran0 P φ H w _ (asSliceC v .fail (goI 0 H) fun _ _ len _ _ _ => goI len H)
    cases hv' <;> try exact .fail
    · exact .pure hw (run_v (by simp [Builtin.len_, run_underlying hu])) (goI_rel 0)
    · exact .pure hw (run_v (by simp [Builtin.len_, run_underlying hu])) (goI_rel _)
    · exact .pure hw (run_v (by simp [Builtin.len_, run_underlying hu])) (goI_rel 0)
  · rename_i hu
    show Ran0 P φ H w _ (asMapC v .fail (goI 0 H) fun k => Option.rec (motive := fun _ => R1) .fail (fun b => Blk.rec (motive := fun _ => R1) .fail (fun _ _ _ => .fail) (fun es => fN es.length fun n => goI n H) b) (H.get k))
    cases hv' <;> try exact .fail
    · exact .pure hw (run_v (by simp [Builtin.len_, run_underlying hu])) (goI_rel 0)
    · rename_i k at_ hk
      show Ran0 P φ H w _ (Option.rec (motive := fun _ => R1) .fail (fun b => Blk.rec (motive := fun _ => R1) .fail (fun _ _ _ => .fail) (fun es => fN es.length fun n => goI n H) b) (H.get k))
      cases hg : H.get k with
      | none => exact .fail
      | some b =>
        cases b with
        | dead => exact .fail
        | row _ _ _ => exact .fail
        | map es =>
          show Ran0 P φ H w _ (fN es.length fun n => goI n H)
          rw [fN_eq]
          obtain ⟨c, clock, h1, h2⟩ := hw.blk k _ at_ hg hk
          have : es.length = c.size := by rw [h2.length]; simp
          rw [this]
          refine .pure hw (run_v ?_) (goI_rel _)
          simp [Builtin.len_, run_underlying hu, getObj, Sem.run, h1]
  · rename_i n e hu
    show Ran0 P φ H w _ (goI n H)
    refine .pure hw (run_v ?_) (goI_rel n)
    simp only [Builtin.len_, List.getElem?_toArray, List.getElem?_cons_zero, Sem.run_bind, run_underlying hu, Result.andThen_ok, Sem.run_pure]

noncomputable def capR (x : X) (T : Tr AV) (H : Heap) : R1 := withX T x .fail fun v => asSliceC v .fail (goI 0 H) fun _ _ _ _ ex cap => bif' ex (goI cap H) (.val (.geq cap) H)
theorem cap_sound (hw : WRel P φ H w) {t e ty : TypeId} (hu : P.underlying t = some (.slice e)) {o : Operand} {x : X} (hx : cX o = some x) (ht : TRelAt P φ T a.tmps (· ∈ tmpsOf [o])) :
    Ran0 P φ H w (do return Next.value (← Builtin.cap_ #[t] ty #[a.eval o])) (capR x T H) := by
  unfold capR
  rcases withX_eq T x R1.fail _ with ⟨_, e'⟩ | ⟨v, hv, e'⟩ <;> rw [e'] <;> clear e'
  · exact .fail
  have hv' := evX_sound ht hx hv
  generalize a.eval o = y at *
  cases hv' <;> try exact .fail
  · exact .pure hw (run_v (by simp [Builtin.cap_, run_underlying hu])) (goI_rel 0)
  · rename_i k off len es ex cap at_ c hk hxc hc hl hlen
    cases ex
    · refine .pure hw (v' := .int .i64 c) (run_v (by simp [Builtin.cap_, run_underlying hu]; rfl)) (.geq _ _ (by omega))
    · have := hxc rfl; subst this
      exact .pure hw (run_v (by simp [Builtin.cap_, run_underlying hu])) (goI_rel _)
  · rename_i k off es ex at_ x' hk
    cases ex
    · refine .pure hw (v' := .int .i64 0) (run_v (by simp [Builtin.cap_, run_underlying hu]; rfl)) (.geq _ _ (by omega))
    · exact .pure hw (run_v (by simp [Builtin.cap_, run_underlying hu])) (goI_rel 0)

/-! ### The lesser, the greater -/
noncomputable def mm2 {β : Type} (g : Bool) (v u : AV) (f : β) (c : AV → β) : β :=
  asIntC v (asStrC v f fun a => asStrC u f fun b => bif' (bif' g (Bool.not (ltL a b)) (Bool.or (ltL a b) (eqL a b))) (c (.str a)) (c (.str b)))
    fun k m => asIntC u f fun _ n => bif' g (ltI m n fun z => bif' z (c (.int k n)) (c (.int k m))) (ltI n m fun z => bif' z (c (.int k n)) (c (.int k m)))
theorem mm2_sound {β : Type} {v u : AV} {v' u' : Value} (hv : VRel P φ v v') (hu : VRel P φ u u') (g : Bool) (f : β) (c : AV → β) :
    mm2 g v u f c = f ∨ ∃ r r', mm2 g v u f c = c r ∧ (∀ w, (if g = true then Builtin.max2 v' u' else Builtin.min2 v' u').run P w = .ok r' w) ∧ VRel P φ r r' := by
  unfold mm2
  cases hv <;> try exact .inl rfl
  · rename_i k m
    cases hu <;> try exact .inl rfl
    rename_i k' n
    right
    show ∃ r r', bif' g (ltI m n fun z => bif' z (c (.int k n)) (c (.int k m))) (ltI n m fun z => bif' z (c (.int k n)) (c (.int k m))) = c r ∧ _
    cases g
    · rw [bif_false, ltI_eq, bif_eq]
      by_cases h : n < m
      · exact ⟨.int k n, .int k n, by simp [h], fun w => by simp [Builtin.min2, h], .int _ _⟩
      · exact ⟨.int k m, .int k m, by simp [h], fun w => by simp [Builtin.min2, h], .int _ _⟩
    · rw [bif_true, ltI_eq, bif_eq]
      by_cases h : m < n
      · exact ⟨.int k n, .int k n, by simp [h], fun w => by simp [Builtin.max2, h], .int _ _⟩
      · exact ⟨.int k m, .int k m, by simp [h], fun w => by simp [Builtin.max2, h], .int _ _⟩
  · rename_i l s hs
    cases hu <;> try exact .inl rfl
    rename_i l' s' hs'
    right
    show ∃ r r', bif' (bif' g (Bool.not (ltL l l')) (Bool.or (ltL l l') (eqL l l'))) (c (.str l)) (c (.str l')) = c r ∧ _
    have he : eqL l l' = (s.toList == s'.toList) := by rw [← hs, ← hs', eqL_map, ByteArray.toList_eq, ByteArray.toList_eq]
    have hl : ltL l l' = Op.bytesLess s.toList s'.toList := by rw [← hs, ← hs', ltL_eq, ByteArray.toList_eq, ByteArray.toList_eq]
    rw [he, hl]
    cases g
    · rw [bif_false, bif_eq]
      by_cases h : Bool.or (Op.bytesLess s.toList s'.toList) (s.toList == s'.toList) = true
      · exact ⟨.str l, .string s, if_pos h, fun w => by simp only [Bool.false_eq_true, if_false, Builtin.min2, Op.stringOp, Sem.run_bind, Sem.run_pure, Result.andThen_ok, asBool]; rw [if_pos h], .str _ _ hs⟩
      · exact ⟨.str l', .string s', if_neg h, fun w => by simp only [Bool.false_eq_true, if_false, Builtin.min2, Op.stringOp, Sem.run_bind, Sem.run_pure, Result.andThen_ok, asBool]; rw [if_neg h], .str _ _ hs'⟩
    · rw [bif_true, bif_eq]
      by_cases h : (Bool.not (Op.bytesLess s.toList s'.toList)) = true
      · exact ⟨.str l, .string s, if_pos h, fun w => by simp only [if_true, Builtin.max2, Op.stringOp, Sem.run_bind, Sem.run_pure, Result.andThen_ok, asBool]; rw [if_pos h], .str _ _ hs⟩
      · exact ⟨.str l', .string s', if_neg h, fun w => by simp only [if_true, Builtin.max2, Op.stringOp, Sem.run_bind, Sem.run_pure, Result.andThen_ok, asBool]; rw [if_neg h], .str _ _ hs'⟩
noncomputable def mmR (g : Bool) (x y : X) (T : Tr AV) (H : Heap) : R1 := withX T x .fail fun v => withX T y .fail fun u => mm2 g v u .fail fun r => .val r H
theorem mm_sound (hw : WRel P φ H w) (g : Bool) {ts : Array TypeId} {ty : TypeId} {o1 o2 : Operand} {x y : X} (hx : cX o1 = some x) (hy : cX o2 = some y) (ht : TRelAt P φ T a.tmps (· ∈ tmpsOf [o1, o2])) (s : Sem Next)
    (hs : s = if g = true then (do return Next.value (← Builtin.max_ ts ty #[a.eval o1, a.eval o2])) else (do return Next.value (← Builtin.min_ ts ty #[a.eval o1, a.eval o2]))) :
    Ran0 P φ H w s (mmR g x y T H) := by
  unfold mmR
  rcases withX_eq T x R1.fail _ with ⟨_, e'⟩ | ⟨v, hv, e'⟩ <;> rw [e'] <;> clear e'
  · exact .fail
  rcases withX_eq T y R1.fail _ with ⟨_, e'⟩ | ⟨q, hq, e'⟩ <;> rw [e'] <;> clear e'
  · exact .fail
  have hv' := evX_sound (sub2a ht) hx hv
  have hq' := evX_sound (sub2b ht) hy hq
  rcases mm2_sound hv' hq' g R1.fail (fun r => .val r H) with e' | ⟨r, r', e', hr, hrel⟩ <;> rw [e']
  · exact .fail
  refine .pure hw ?_ hrel
  subst hs
  have := hr w
  cases g
  · simp only [Bool.false_eq_true, if_false] at this ⊢
    exact run_v (by simp [Builtin.min_, this])
  · simp only [if_true] at this ⊢
    exact run_v (by simp [Builtin.max_, this])
end Go.Ev
/- Calls: of a function, of a function value, of a method; of what has no body and looks at no memory. -/

namespace Go.Ev
variable {P : Program} {φ : Phi} {H : Heap} {w u : World} {T : Tr AV} {a : Act}

/-! ### A run that looks at no memory -/
def pureRun (P : Program) {α : Type} : Sem α → Option α
  | .pure a => some a
  | .program k => pureRun P (k P)
  | .mark _ k => pureRun P k
  | _ => none
theorem pureRun_sound {α : Type} : ∀ (s : Sem α) (x : α), pureRun P s = some x → ∀ w, s.run P w = .ok x w
  | .pure a, x, h, w => by simp only [pureRun, Option.some.injEq] at h; subst h; rfl
  | .program k, x, h, w => by simp only [pureRun] at h; exact pureRun_sound (k P) x h w
  | .mark m k, x, h, w => by simp only [pureRun] at h; exact pureRun_sound k x h w
  | .load .., x, h, w => by simp [pureRun] at h
  | .store .., x, h, w => by simp [pureRun] at h
  | .new .., x, h, w => by simp [pureRun] at h
  | .shape .., x, h, w => by simp [pureRun] at h
  | .freeze .., x, h, w => by simp [pureRun] at h
  | .frozen .., x, h, w => by simp [pureRun] at h
  | .getObj .., x, h, w => by simp [pureRun] at h
  | .setObj .., x, h, w => by simp [pureRun] at h
  | .choose .., x, h, w => by simp [pureRun] at h
  | .sys .., x, h, w => by simp [pureRun] at h
  | .halt .., x, h, w => by simp [pureRun] at h

/-! ### Values that hold no address, as the model has them -/
def toV1 (P : Program) : AV → Option Value
  | .bool b => some (.bool b)
  | .int k n => some (.int k n)
  | .str l => some (.string ⟨(l.map UInt8.ofNat).toArray⟩)
  | .nilp => some (.pointer none)
  | .nils => some (.slice none 0 0)
  | .nilf => some .nilFunc
  | .nili => some .nilIface
  | .typ t => some (typeHandle P t)
  | _ => none
def toV1s (P : Program) : List AV → Option (List Value)
  | [] => some []
  | v :: l => (toV1 P v).bind fun x => (toV1s P l).map fun r => x :: r
def toV (P : Program) : AV → Option Value
  | .agg l => (toV1s P l).map fun l => .agg l.toArray
  | .iface t (.agg l) => (toV1s P l).map fun l => .iface t (.agg l.toArray)
  | .iface t v => (toV1 P v).map (.iface t)
  | v => toV1 P v
def toVs (P : Program) : List AV → Option (List Value)
  | [] => some []
  | v :: l => (toV P v).bind fun x => (toVs P l).map fun r => x :: r

theorem bytes_back (s : ByteArray) : (⟨((s.data.toList.map (·.toNat)).map UInt8.ofNat).toArray⟩ : ByteArray) = s := by
  cases s with
  | mk d =>
    congr 1
    apply Array.ext'
    simp only [List.map_map]
    have : (UInt8.ofNat ∘ fun x : UInt8 => x.toNat) = id := by funext b; simp
    rw [this]; simp
theorem toV1_sound {v : AV} {v' x : Value} (h : VRel P φ v v') (hx : toV1 P v = some x) : x = v' := by
  cases h <;> simp only [toV1, Option.some.injEq] at hx <;> first
    | exact hx.symm
    | (cases hx; done)
    | (rename_i l s hs; subst hs; rw [← hx]; congr 1; exact bytes_back s)
theorem toV1s_sound : ∀ {l : List AV} {l' x : List Value}, VRels P φ l l' → toV1s P l = some x → x = l'
  | _, _, x, .nil, h => by simp only [toV1s, Option.some.injEq] at h; exact h.symm
  | _, _, x, .cons v l v' l' hv hl, h => by
    simp only [toV1s] at h
    cases h1 : toV1 P v with
    | none => simp [h1] at h
    | some y =>
      cases h2 : toV1s P l with
      | none => simp [h1, h2] at h
      | some r =>
        simp [h1, h2] at h
        subst h
        rw [toV1_sound hv h1, toV1s_sound hl h2]
theorem toV_sound {v : AV} {v' x : Value} (h : VRel P φ v v') (hx : toV P v = some x) : x = v' := by
  unfold toV at hx
  split at hx
  · simp only [Option.map_eq_some_iff] at hx
    obtain ⟨r, h3, rfl⟩ := hx
    cases h with
    | agg l c h1 h2 => rw [toV1s_sound h1 h3]
  · simp only [Option.map_eq_some_iff] at hx
    obtain ⟨r, h3, rfl⟩ := hx
    cases h with
    | iface t v v' h =>
      cases h with
      | agg l c h1 h2 => rw [toV1s_sound h1 h3]
  · simp only [Option.map_eq_some_iff] at hx
    obtain ⟨r, h3, rfl⟩ := hx
    cases h with
    | iface t v v' h => rw [toV1_sound h h3]
  · exact toV1_sound h hx
theorem toVs_sound : ∀ {l : List AV} {l' x : List Value}, VRels P φ l l' → toVs P l = some x → x = l'
  | _, _, x, .nil, h => by simp only [toVs, Option.some.injEq] at h; exact h.symm
  | _, _, x, .cons v l v' l' hv hl, h => by
    simp only [toVs] at h
    cases h1 : toV P v with
    | none => simp [h1] at h
    | some y =>
      cases h2 : toVs P l with
      | none => simp [h1, h2] at h
      | some r =>
        simp [h1, h2] at h
        subst h
        rw [toV_sound hv h1, toVs_sound hl h2]

/-- back: the model's, where it holds no address but a type's -/
def fromV1 (P : Program) (v : Value) : Option AV := match v with
  | .pointer (some ⟨b, t, none⟩) => if b = P.globals.size then some (.typ t) else none
  | v => ofScalar v
def fromV1s (P : Program) : List Value → Option (List AV)
  | [] => some []
  | v :: l => (fromV1 P v).bind fun x => (fromV1s P l).map fun r => x :: r
def fromV (P : Program) : Value → Option AV
  | .iface t (.agg c) => (fromV1s P c.toList).map fun l => .iface t (.agg l)
  | .iface t v => (fromV1 P v).map (.iface t)
  | v => fromV1 P v
theorem fromV1_sound {v : Value} {x : AV} (h : fromV1 P v = some x) : VRel P φ x v ∧ v.oneCell' = true := by
  unfold fromV1 at h
  split at h
  · split at h
    · rename_i hb; subst hb; cases h; exact ⟨.typ _, rfl⟩
    · cases h
  · exact ofScalar_sound h
theorem fromV1s_sound : ∀ {l : List Value} {x : List AV}, fromV1s P l = some x → VRels P φ x l ∧ ∀ v ∈ l, v.oneCell' = true
  | [], _, h => by cases h; exact ⟨.nil, by simp⟩
  | v :: l, x, h => by
    simp only [fromV1s] at h
    cases h1 : fromV1 P v with
    | none => simp [h1] at h
    | some y =>
      cases h2 : fromV1s P l with
      | none => simp [h1, h2] at h
      | some r =>
        simp [h1, h2] at h
        subst h
        have a := fromV1_sound (P := P) (φ := φ) h1
        have b := fromV1s_sound h2
        exact ⟨.cons _ _ _ _ a.1 b.1, by simpa using ⟨a.2, b.2⟩⟩
theorem fromV_sound {v : Value} {x : AV} (h : fromV P v = some x) : VRel P φ x v := by
  unfold fromV at h
  split at h
  · cases h1 : fromV1s P _ with
    | none => rw [h1] at h; cases h
    | some r => rw [h1] at h; cases h; have := fromV1s_sound (P := P) (φ := φ) h1; exact .iface _ _ _ (.agg _ _ this.1 this.2)
  · cases h1 : fromV1 P _ with
    | none => rw [h1] at h; cases h
    | some r => rw [h1] at h; cases h; exact .iface _ _ _ (fromV1_sound h1).1
  · exact (fromV1_sound h).1

/-! ### Do two slices overlap? -/
theorem ovl_typed : Extern.allTypedRows.lookup "slices.overlaps" = some Extern.SlicesOverlaps.overlaps := by kernel_rfl
theorem ovl_generic : Extern.allGenericRows.lookup "slices.overlaps" = none := by kernel_rfl
theorem ovl_next : Extern.allNextRows.lookup "slices.overlaps" = none := by kernel_rfl
def elemOfS (P : Program) (t : TypeId) : Option TypeId := match P.underlying t with
  | some (.slice e) => some e
  | _ => none
/-- a function that asks whether two slices overlap: how many cells an element has -/
def ovlOf (P : Program) (f : FuncId) : Option Nat := (P.funcs[f]?).bind fun fn =>
  if fn.origin = "slices.overlaps" ∧ fn.body.isNone = true ∧ (fn.name == "runtime.NumGoroutine") = false ∧ (Extern.allNextRows.lookup fn.name).isNone = true ∧ (Extern.allGenericRows.lookup fn.name).isNone = true ∧ (Extern.allTypedRows.lookup fn.name).isNone = true ∧ (Extern.allRows.lookup fn.name).isNone = true then
    (fn.params[0]?).bind fun t => (elemOfS P t).bind fun e => szT P e else none

theorem run_overlaps {f : FuncId} {n : Nat} (h : ovlOf P f = some n) : ∃ t e fn, P.funcs[f]? = some fn ∧ fn.params[0]? = some t ∧ P.underlying t = some (.slice e) ∧ szT P e = some n ∧
    ∀ (args : Array Value) (w u : World) (v : Value), (Extern.SlicesOverlaps.overlaps fn.params fn.resultTypes args).run P w = .ok v u → (callFunc f args).run P w = .ok (.value v) u := by
  unfold ovlOf at h
  cases hf : P.funcs[f]? with
  | none => rw [hf] at h; cases h
  | some fn =>
    rw [hf] at h
    simp only [Option.bind_some] at h
    split at h
    case isFalse => cases h
    rename_i hc
    obtain ⟨ho, hb, hng, h1, h2, h3, h4⟩ := hc
    cases hp : fn.params[0]? with
    | none => rw [hp] at h; cases h
    | some t =>
      rw [hp] at h
      simp only [Option.bind_some] at h
      cases he : elemOfS P t with
      | none => rw [he] at h; cases h
      | some e =>
        rw [he] at h
        have hu : P.underlying t = some (.slice e) := by unfold elemOfS at he; split at he <;> cases he; assumption
        refine ⟨t, e, fn, rfl, hp, hu, h, fun args w u v hr => ?_⟩
        have hn : Extern.findNext fn = none := by
          unfold Extern.findNext
          simp only [Option.isNone_iff_eq_none] at h1
          simp [h1, ho, ovl_next]
        have hfind : Extern.find fn = some (Extern.SlicesOverlaps.overlaps fn.params fn.resultTypes) := by
          unfold Extern.find
          simp only [Option.isNone_iff_eq_none] at h2 h3 h4
          simp [h2, h3, h4, ho, ovl_typed, ovl_generic]
        have hb' : fn.body = none := by simpa using hb
        have hng' : ¬ fn.name = "runtime.NumGoroutine" := by simpa using hng
        simp [callFunc, hf, hng', hb', hn, hfind, hr]

/-- what the outer function does at two slices -/
theorem ovl_match {motive : Array Value → Sort _} (a b : Option Addr) (la lb c c' : Nat) (h1 : (a : Option Addr) → (la cap : Nat) → (b : Option Addr) → (lb cap_1 : Nat) → motive #[Value.slice a la cap, Value.slice b lb cap_1]) (h2 : (x : Array Value) → motive x) :
    Extern.SlicesOverlaps.overlaps.match_4 motive #[Value.slice a la c, Value.slice b lb c'] h1 h2 = h1 a la c b lb c' := rfl

noncomputable def ovlC (n : Nat) (args : List AV) (H : Heap) : R1 :=
  List.rec (motive := fun _ => R1) .fail (fun v r _ => List.rec (motive := fun _ => R1) .fail (fun u r2 _ => List.rec (motive := fun _ => R1)
    (asSliceC v .fail .fail fun k off len es _ _ => asSliceC u .fail .fail fun k' off' len' es' _ _ =>
      bif' (bif' (Nat.beq len 0) true (Nat.beq len' 0)) (.val (.bool false) H)
        (bif' (k.beq k') (bif' (Nat.beq n 0) .fail (fB (Bool.and (Nat.blt off (off' + len' * n)) (Nat.blt off' (off + len * n))) fun b => .val (.bool b) H))
          (blkC H k .fail fun wr es _ => bif' (Bool.and wr (Bool.not (Nat.beq es 1))) (blkC H k' .fail fun _ _ _ => bif' (Nat.beq n 0) .fail (bif' (Nat.beq es' 0) .fail (.val (.bool false) H))) .fail)))
    (fun _ _ _ => .fail) r2) r) args

theorem ovlC_sound (hw : WRel P φ H w) {f : FuncId} {n : Nat} (hn : ovlOf P f = some n) {args : List AV} {args' : Array Value} (hv : VRels P φ args args'.toList) : Ran P φ H w (callFunc f args') (ovlC n args H) := by
  obtain ⟨t, e, fn, hf, hp, hu, hsz, hrun⟩ := run_overlaps hn
  have hae : args' = args'.toList.toArray := by simp
  rw [hae]
  generalize args'.toList = l at hv
  cases hv with
  | nil => exact .fail
  | cons v r v' r' hv hr =>
  cases hr with
  | nil => exact .fail
  | cons u r2 u' r2' hu' hr2 =>
  cases hr2 with
  | cons _ _ _ _ _ _ => exact .fail
  | nil =>
  cases hv <;> try exact .fail
  · rename_i k off len es ex cap at_ c hk hx hc hl hlen
    cases hu' <;> try exact .fail
    · rename_i k' off' len' es' ex' cap' at' c' hk' hx' hc' hl' hlen'
      show Ran P φ H w _ (bif' (bif' (Nat.beq len 0) true (Nat.beq len' 0)) (.val (.bool false) H)
        (bif' (k.beq k') (bif' (Nat.beq n 0) .fail (fB (Bool.and (Nat.blt off (off' + len' * n)) (Nat.blt off' (off + len * n))) fun b => .val (.bool b) H))
          (blkC H k .fail fun wr es _ => bif' (Bool.and wr (Bool.not (Nat.beq es 1))) (blkC H k' .fail fun _ _ _ => bif' (Nat.beq n 0) .fail (bif' (Nat.beq es' 0) .fail (.val (.bool false) H))) .fail)))
      by_cases h0 : bif' (Nat.beq len 0) true (Nat.beq len' 0) = true
      · rw [h0, bif_true]
        have h0' : len = 0 ∨ len' = 0 := by
          rw [bif_eq] at h0
          split at h0
          · left; exact Nat.eq_of_beq_eq_true (by assumption)
          · right; exact Nat.eq_of_beq_eq_true h0
        refine .pure hw (hrun _ _ _ (.bool false) ?_) (.bool false)
        show (Extern.SlicesOverlaps.overlaps fn.params fn.resultTypes #[_, _]).run P w = _
        unfold Extern.SlicesOverlaps.overlaps
        rw [ovl_match]
        rcases h0' with h | h <;> simp [hp, run_underlying hu, run_sizeOf' hsz, h]
      rw [eq_false_of_ne_true h0, bif_false]
      have h0' : len ≠ 0 ∧ len' ≠ 0 := by
        rw [bif_eq] at h0
        refine ⟨fun e => ?_, fun e => ?_⟩ <;> subst e <;> apply h0
        · rfl
        · split <;> rfl
      by_cases hkk : k.beq k' = true
      · rw [hkk, bif_true]
        have := (K.beq_iff _ _).1 hkk; subst this
        rw [hk] at hk'; cases hk'
        by_cases hn0 : Nat.beq n 0 = true
        · rw [hn0]; exact .fail
        rw [eq_false_of_ne_true hn0, bif_false, fB_eq]
        have hn0' : n ≠ 0 := fun e => hn0 (by rw [e]; rfl)
        refine .pure hw (hrun _ _ _ (.bool _) ?_) (.bool _)
        show (Extern.SlicesOverlaps.overlaps fn.params fn.resultTypes #[_, _]).run P w = _
        unfold Extern.SlicesOverlaps.overlaps
        rw [ovl_match]
        simp only [hp, Sem.run_bind, Result.andThen_ok, run_underlying hu, run_sizeOf' hsz, h0'.1, h0'.2, hn0', or_self, if_false, bne_self_eq_false, Bool.false_and, Bool.false_eq_true, beq_self_eq_true, Bool.true_and, Sem.run_pure]
        simp
        rw [Bool.eq_iff_iff]
        simp only [Bool.and_eq_true, decide_eq_true_eq, Nat.blt_eq]
        omega
      rw [eq_false_of_ne_true hkk, bif_false]
      have hne : k ≠ k' := fun e => hkk ((K.beq_iff _ _).2 e)
      rcases blkC_eq H k R1.fail (fun wr es _ => bif' (Bool.and wr (Bool.not (Nat.beq es 1))) (blkC H k' .fail fun _ _ _ => bif' (Nat.beq n 0) .fail (bif' (Nat.beq es' 0) .fail (.val (.bool false) H))) .fail) with e1 | ⟨wr, es1, rows, hg, e1⟩ <;> rw [e1] <;> clear e1
      · exact .fail
      by_cases hwe : Bool.and wr (Bool.not (Nat.beq es1 1)) = true
      case neg => rw [eq_false_of_ne_true hwe]; exact .fail
      rw [hwe, bif_true]
      simp only [Bool.and_eq_true, Bool.not_eq_true'] at hwe
      obtain ⟨rfl, hes1⟩ := hwe
      have hes1 : es1 ≠ 1 := fun e => by subst e; cases hes1
      rcases blkC_eq H k' R1.fail (fun _ _ _ => bif' (Nat.beq n 0) .fail (bif' (Nat.beq es' 0) .fail (.val (.bool false) H))) with e1 | ⟨wr', es2, rows', hg', e1⟩ <;> rw [e1] <;> clear e1
      · exact .fail
      by_cases hn0 : Nat.beq n 0 = true
      · rw [hn0]; exact .fail
      rw [eq_false_of_ne_true hn0, bif_false]
      by_cases he0 : Nat.beq es' 0 = true
      · rw [he0]; exact .fail
      rw [eq_false_of_ne_true he0, bif_false]
      have hn0' : n ≠ 0 := fun e => hn0 (by rw [e]; rfl)
      have he0' : es' ≠ 0 := fun e => he0 (by rw [e]; rfl)
      have hb : at_.b ≠ at'.b := fun e => hw.inj k k' _ _ at_ at' hne hg hg' hk hk' trivial trivial e rfl
      obtain ⟨_, _, pre, vs, post, e1, lo, hi, g1, g2, g3, g4, g5, g6⟩ := hw.blk k _ at_ hg hk
      obtain ⟨_, _, pre', vs', post', e1', lo', hi', g1', g2', g3', g4', g5', g6'⟩ := hw.blk k' _ at' hg' hk'
      have hfz : ∀ o, w.frozen? ⟨at_.b, o, none⟩ = false := by
        intro o
        have : hi ≤ lo := (g4 rfl).resolve_right fun h => hes1 h.2
        simp only [World.frozen?, g1]
        rw [Bool.and_eq_false_iff]
        by_cases h : lo ≤ o
        · right; simp; omega
        · left; simpa using h
      have hlen0 : (pre' ++ vs' ++ post').toArray.size ≠ 0 := by
        simp only [List.size_toArray]
        rw [g3']
        have : 1 * 1 ≤ c' * es' := Nat.mul_le_mul (by omega) (by omega)
        omega
      have hs1 : w.shape? at_.b = some (e1, (pre ++ vs ++ post).toArray.size) := by simp only [World.shape?, g1]
      have hs2 : w.shape? at'.b = some (e1', (pre' ++ vs' ++ post').toArray.size) := by simp only [World.shape?, g1']
      refine .pure hw (hrun _ _ _ (.bool false) ?_) (.bool false)
      show (Extern.SlicesOverlaps.overlaps fn.params fn.resultTypes #[_, _]).run P w = _
      unfold Extern.SlicesOverlaps.overlaps
      rw [ovl_match]
      have hv1 : (noView ⟨at_.b, at_.o + off, none⟩).run P w = .ok () w := by simp [noView, viewAt, hs1]
      have hv2 : (noView ⟨at'.b, at'.o + off', none⟩).run P w = .ok () w := by simp [noView, viewAt, hs2]
      have hst1 : (stringish ⟨at_.b, at_.o + off, none⟩).run P w = .ok false w := by simp [stringish, hfz, hs1]
      have hst2 : ∃ b, (stringish ⟨at'.b, at'.o + off', none⟩).run P w = .ok b w := by
        unfold stringish
        cases hf2 : w.frozen? ⟨at'.b, at'.o + off', none⟩
        · exact ⟨_, by simp [hf2, hs2]; rfl⟩
        · exact ⟨true, by simp [hf2]⟩
      obtain ⟨b2, hst2⟩ := hst2
      have hmb : (mayBeOne ⟨at_.b, at_.o + off, none⟩ ⟨at'.b, at'.o + off', none⟩).run P w = .ok false w := by
        unfold mayBeOne
        simp only [Sem.run_bind, hst1, hst2, Result.andThen_ok, run_shape, hs1, hs2, Sem.run_pure, Bool.false_and, Bool.false_or]
        congr 1
        generalize (pre' ++ vs' ++ post').toArray.size = z at hlen0
        cases z with
        | zero => exact absurd rfl hlen0
        | succ z => simp
      have hbb : (at_.b == at'.b) = false := by simpa using hb
      simp [hp, run_underlying hu, run_sizeOf' hsz, h0'.1, h0'.2, hn0', hb, hfz, hv1, hv2, hmb]
    · rename_i k' off' es' ex' at' x' hk'
      have e1 : ovlC n [AV.slice k off len es ex cap, AV.slice k' off' 0 es' ex' 0] H = bif' (bif' (Nat.beq len 0) true true) (.val (.bool false) H) (bif' (k.beq k') (bif' (Nat.beq n 0) .fail (fB (Bool.and (Nat.blt off (off' + 0 * n)) (Nat.blt off' (off + len * n))) fun b => .val (.bool b) H))
          (blkC H k .fail fun wr es _ => bif' (Bool.and wr (Bool.not (Nat.beq es 1))) (blkC H k' .fail fun _ _ _ => bif' (Nat.beq n 0) .fail (bif' (Nat.beq es' 0) .fail (.val (.bool false) H))) .fail)) := rfl
      have e2 : bif' (Nat.beq len 0) true true = true := by rw [bif_eq]; split <;> rfl
      rw [e1, e2, bif_true]
      refine .pure hw (hrun _ _ _ (.bool false) ?_) (.bool false)
      show (Extern.SlicesOverlaps.overlaps fn.params fn.resultTypes #[_, _]).run P w = _
      unfold Extern.SlicesOverlaps.overlaps
      rw [ovl_match]
      simp [hp, run_underlying hu, run_sizeOf' hsz]
  · cases hu' <;> try exact .fail
    · refine .pure hw (hrun _ _ _ (.bool false) ?_) (.bool false)
      show (Extern.SlicesOverlaps.overlaps fn.params fn.resultTypes #[_, _]).run P w = _
      unfold Extern.SlicesOverlaps.overlaps
      rw [ovl_match]
      simp [hp, run_underlying hu, run_sizeOf' hsz]
    · refine .pure hw (hrun _ _ _ (.bool false) ?_) (.bool false)
      show (Extern.SlicesOverlaps.overlaps fn.params fn.resultTypes #[_, _]).run P w = _
      unfold Extern.SlicesOverlaps.overlaps
      rw [ovl_match]
      simp [hp, run_underlying hu, run_sizeOf' hsz]

/-! ### Calls -/
/-- a function that is entered -/
def callOk (P : Program) (f : FuncId) : Bool := match P.funcs[f]? with
  | some fn => fn.body.isSome && !(fn.name == "runtime.NumGoroutine")
  | none => false
theorem run_callFunc {f : FuncId} (h : callOk P f = true) (args : Array Value) (w : World) : (callFunc f args).run P w = .ok (.enter f args) w := by
  unfold callOk at h
  split at h
  · rename_i fn hf
    simp only [Bool.and_eq_true, Bool.not_eq_true'] at h
    obtain ⟨h1, h2⟩ := h
    have h3 : fn.body.isNone = false := by cases hb : fn.body <;> simp_all
    simp only [callFunc, Sem.run_bind, run_program, Result.andThen_ok, hf, h2, Bool.false_eq_true, if_false, h3, Sem.run_pure]
  · cases h

/-- what an outer function answers -/
def extV (P : Program) (f : FuncId) (args : List Value) : Option AV := match pureRun P (callFunc f args.toArray) with
  | some (.value v) => fromV P v
  | _ => none
noncomputable def callC (P : Program) (f : FuncId) (args : List AV) (H : Heap) : R1 :=
  bif' (callOk P f) (.call f args) (Option.rec (motive := fun _ => R1) (Option.rec (motive := fun _ => R1) .fail (fun l => Option.rec (motive := fun _ => R1) .fail (fun v => .val v H) (extV P f l)) (toVs P args)) (fun n => ovlC n args H) (ovlOf P f))
theorem callC_sound (hw : WRel P φ H w) (f : FuncId) {args : List AV} {args' : Array Value} (hv : VRels P φ args args'.toList) : Ran P φ H w (callFunc f args') (callC P f args H) := by
  unfold callC
  by_cases hc : callOk P f = true
  · rw [hc, bif_true]
    exact .call f args args' (run_callFunc hc _ _) hv
  · rw [eq_false_of_ne_true hc, bif_false]
    cases hov : ovlOf P f with
    | some n => exact ovlC_sound hw hov hv
    | none =>
    show Ran P φ H w _ (Option.rec (motive := fun _ => R1) .fail (fun l => Option.rec (motive := fun _ => R1) .fail (fun v => .val v H) (extV P f l)) (toVs P args))
    cases h1 : toVs P args with
    | none => exact .fail
    | some l =>
      show Ran P φ H w _ (Option.rec (motive := fun _ => R1) .fail (fun v => .val v H) (extV P f l))
      cases h2 : extV P f l with
      | none => exact .fail
      | some v =>
        have hl := toVs_sound hv h1
        subst hl
        unfold extV at h2
        split at h2
        · rename_i x hx
          exact .pure hw (pureRun_sound _ _ (by simpa using hx) w) (fromV_sound h2)
        · cases h2

theorem cXs_ops {l : List Operand} : (l.map a.eval) = (l.toArray.map a.eval).toList := by simp

/-- a call of a known function -/
noncomputable def callS (P : Program) (f : FuncId) (xs : List X) (T : Tr AV) (H : Heap) : R1 := withXs T xs .fail fun vs => callC P f vs H
theorem callS_sound (hw : WRel P φ H w) {c : Call} {f : FuncId} (hc : c.callee = .value (.func f)) {xs : List X} (hx : cXs c.args.toList = some xs) (ht : TRelAt P φ T a.tmps (· ∈ tmpsOf c.args.toList)) (ty : TypeId) :
    Ran P φ H w (do let d ← resolve a.eval c ty; invoke d.target d.args) (callS P f xs T H) := by
  unfold callS
  rcases withXs_sound (P := P) (φ := φ) (a := a) R1.fail (fun vs => callC P f vs H) ht hx with e | ⟨vs, e, hv⟩ <;> rw [e]
  · exact .fail
  have h := callC_sound hw f (args := vs) (args' := c.args.map a.eval) (by simpa using hv)
  have hr : (do let d ← resolve a.eval c ty; invoke d.target d.args : Sem Next) = callFunc f (c.args.map a.eval) := by
    simp only [resolve, hc, Act.eval, Deferred.ofValue, pure_bind, invoke, Array.append_empty, Array.empty_append]
  rw [hr]; exact h

/-- a call of a function value -/
noncomputable def callX (P : Program) (x : X) (xs : List X) (T : Tr AV) (H : Heap) : R1 := withX T x .fail fun v => withXs T xs .fail fun vs => asFnC v .fail fun fn first caps =>
  Fn.rec (motive := fun _ => R1) (fun f => appC first vs fun l => appC l caps fun l => callC P f l H) (fun _ => .fail) (fun _ _ => .fail) (fun _ _ _ _ => .fail) (fun _ => .fail) fn
theorem callX_sound (hw : WRel P φ H w) {c : Call} {o : Operand} (hc : c.callee = .value o) {x : X} (hx : cX o = some x) {xs : List X} (hxs : cXs c.args.toList = some xs) (ht : TRelAt P φ T a.tmps (· ∈ tmpsOf (o :: c.args.toList))) (ty : TypeId) :
    Ran P φ H w (do let d ← resolve a.eval c ty; invoke d.target d.args) (callX P x xs T H) := by
  unfold callX
  rcases withX_eq T x R1.fail _ with ⟨_, e⟩ | ⟨v, hv, e⟩ <;> rw [e] <;> clear e
  · exact .fail
  have hv' := evX_sound (tm3a ht) hx hv
  rcases withXs_sound (P := P) (φ := φ) (a := a) R1.fail (fun vs => asFnC v .fail fun fn first caps =>
    Fn.rec (motive := fun _ => R1) (fun f => appC first vs fun l => appC l caps fun l => callC P f l H) (fun _ => .fail) (fun _ _ => .fail) (fun _ _ _ _ => .fail) (fun _ => .fail) fn) (tm3b ht (fun _ h => h)) hxs with e | ⟨vs, e, hvs⟩ <;> rw [e] <;> clear e
  · exact .fail
  generalize hy : a.eval o = y at *
  cases hv' <;> try exact .fail
  rename_i fn first caps first' caps' h1 h2
  cases fn <;> try exact .fail
  rename_i f
  show Ran P φ H w _ (appC first vs fun l => appC l caps fun l => callC P f l H)
  rw [appC_eq, appC_eq]
  have h := callC_sound hw f (args := first ++ vs ++ caps) (args' := first' ++ c.args.map a.eval ++ caps') (by
    simp only [Array.toList_append, Array.toList_map]
    exact (h1.append hvs).append h2)
  have hr : (do let d ← resolve a.eval c ty; invoke d.target d.args : Sem Next) = callFunc f (first' ++ c.args.map a.eval ++ caps') := by
    simp only [resolve, hc, hy, Deferred.ofValue, pure_bind, invoke]
  rw [hr]; exact h

/-- the method of a type: it lies at no path, its receiver is the value itself -/
def methF (P : Program) (t : TypeId) (name : String) : Option FuncId := match P.info? t with
  | some i => match i.methods.find? (·.name == name) with
    | some m => if m.path.isEmpty then (match m.func, P.underlying t with
        | some (f, true), some (.pointer _) => some f
        | some (f, false), some (.pointer _) => none
        | some (f, false), some _ => some f
        | _, _ => none) else none
    | none => none
  | none => none
noncomputable def callM (P : Program) (x : X) (name : String) (xs : List X) (T : Tr AV) (H : Heap) : R1 := withX T x .fail fun v => withXs T xs .fail fun vs => asIfaceC v .fail (fun t u =>
  Option.rec (motive := fun _ => R1) .fail (fun f => callC P f (u :: vs) H) (methF P t name)) .fail
theorem run_method {t : TypeId} {name : String} {f : FuncId} (h : methF P t name = some f) (n : Nat) (v : Value) (w : World) : (method (n + 1) t v name).run P w = .ok (f, v) w := by
  unfold methF at h
  split at h
  case h_2 => cases h
  rename_i i hi
  split at h
  case h_2 => cases h
  rename_i m hm
  split at h
  case isFalse => cases h
  rename_i hp
  have hpath : m.path.toList = [] := by
    cases hq : m.path with
    | mk l => rw [hq] at hp; simpa using hp
  split at h
  · rename_i _ e hf hu
    cases h
    unfold method
    simp only [Sem.run_bind, typeInfo_of hi, Result.andThen_ok, hm, hpath, follow, Sem.run_pure, hf, receiverAt, run_underlying hu, Place.get]
  · cases h
  · rename_i f' d hne hf hu
    cases h
    unfold method
    simp only [Sem.run_bind, typeInfo_of hi, Result.andThen_ok, hm, hpath, follow, Sem.run_pure, hf, receiverAt, run_underlying hu]
    cases d <;> first
      | exact absurd rfl (hne _)
      | simp [Place.get]
  · cases h

theorem callM_sound (hw : WRel P φ H w) {c : Call} {o : Operand} {name : String} (hc : c.callee = .invoke o name) {x : X} (hx : cX o = some x) {xs : List X} (hxs : cXs c.args.toList = some xs) (ht : TRelAt P φ T a.tmps (· ∈ tmpsOf (o :: c.args.toList))) (ty : TypeId) :
    Ran P φ H w (do let d ← resolve a.eval c ty; invoke d.target d.args) (callM P x name xs T H) := by
  unfold callM
  rcases withX_eq T x R1.fail _ with ⟨_, e⟩ | ⟨v, hv, e⟩ <;> rw [e] <;> clear e
  · exact .fail
  have hv' := evX_sound (tm3a ht) hx hv
  rcases withXs_sound (P := P) (φ := φ) (a := a) R1.fail (fun vs => asIfaceC v .fail (fun t u =>
    Option.rec (motive := fun _ => R1) .fail (fun f => callC P f (u :: vs) H) (methF P t name)) .fail) (tm3b ht (fun _ h => h)) hxs with e | ⟨vs, e, hvs⟩ <;> rw [e] <;> clear e
  · exact .fail
  generalize hy : a.eval o = y at *
  cases hv' <;> try exact .fail
  rename_i t q q' hq
  show Ran P φ H w _ (Option.rec (motive := fun _ => R1) .fail (fun f => callC P f (q :: vs) H) (methF P t name))
  cases hm : methF P t name with
  | none => exact .fail
  | some f =>
    show Ran P φ H w _ (callC P f (q :: vs) H)
    have h := callC_sound hw f (args := q :: vs) (args' := #[q'] ++ c.args.map a.eval) (by
      simp only [Array.toList_append, Array.toList_map, List.singleton_append]
      exact .cons _ _ _ _ hq hvs)
    have hr : (do let d ← resolve a.eval c ty; invoke d.target d.args : Sem Next).run P w = (callFunc f (#[q'] ++ c.args.map a.eval)).run P w := by
      have hinv : invoke (.fn (.method name) #[]) (#[Value.iface t q'] ++ c.args.map a.eval) = callMethod (.iface t q') name (c.args.map a.eval) := by
        have hex : (#[Value.iface t q'] ++ c.args.map a.eval).extract 1 (#[Value.iface t q'] ++ c.args.map a.eval).size = c.args.map a.eval := by
          apply Array.ext'; simp [List.take_of_length_le]
        have h0 : (#[Value.iface t q'] ++ c.args.map a.eval)[0]? = some (.iface t q') := by rw [Array.getElem?_append_left (by simp)]; rfl
        unfold invoke
        simp only [h0, hex]
      simp only [resolve, hc, hy, pure_bind, hinv, callMethod, Sem.run_bind, run_program, Result.andThen_ok]
      have hmm := run_method hm (P.types.size + 99) q' w
      have : P.types.size + Made.depth = P.types.size + 99 + 1 := rfl
      rw [this, hmm]
      rfl
    generalize callC P f (q :: vs) H = r at *
    cases h with
    | fail => exact .fail
    | val v G nx v' u ψ hr' hn hw' he hv => exact .val v G nx v' u ψ (hr.trans hr') hn hw' he hv
    | call g args args' hr' ha => exact .call g args args' (hr.trans hr') ha
end Go.Ev
/- Every operation: what the evaluator makes of it, and that the model's run does so. -/

namespace Go.Ev
variable {P : Program} {φ : Phi} {H : Heap} {w u : World} {T : Tr AV} {a : Act}

abbrev Clo := Tr AV → Heap → R1

def okIface (P : Program) (t : TypeId) : Bool := match P.underlying t with
  | some (.interface _) => false
  | some _ => true
  | none => false
def fieldOf (P : Program) (t : TypeId) (i : Nat) : Option Field := match P.underlying t with
  | some (.struct fs) => fs[i]?
  | _ => none
def elemOfA (P : Program) (t : TypeId) : Option (Nat × TypeId) := match P.underlying t with
  | some (.array n e) => some (n, e)
  | _ => none
def isStr (P : Program) (t : TypeId) : Bool := match P.underlying t with
  | some .string => true
  | _ => false

/-- what an append wants to know of its elements: how many cells, how many bytes -/
def appInfo (P : Program) (e : TypeId) : Option (Nat × Nat) := (P.info? e).bind fun i => i.zero.bind fun z => if i.bytes ≠ 0 ∧ z.cells.size = i.size ∧ 0 < i.size ∧ z.cells.toList.all (fun v => v.oneCell') = true then some (i.size, i.bytes) else none

noncomputable def cBuiltin (P : Program) (b : Builtin) (ts : List TypeId) (xs : List X) : Option Clo := match b, ts, xs with
  | .len, t :: [], x :: [] => some (lenR (lnOf P t) x)
  | .cap, t :: [], x :: [] => (elemOfS P t).map fun _ => capR x
  | .append, s :: t :: [], x :: y :: [] => (elemOfS P s).bind fun e => if isSl P t then (appInfo P e).map fun p => appR p.1 p.2 x y else if isInt P t then (appInfo P e).bind fun p => (zeroL P e).map fun z => apzR p.1 p.2 z x y else none
  | .copy, s :: _ :: [], x :: y :: [] => (elemOfS P s).bind fun e => (szT P e).map fun n => cpyR n x y
  | .min, _, x :: y :: [] => some (mmR false x y)
  | .max, _, x :: y :: [] => some (mmR true x y)
  | _, _, _ => none

noncomputable def cCall (P : Program) (c : Call) : Option Clo := (cXs c.args.toList).bind fun xs => match c.callee with
  | .value (.func f) => some (callS P f xs)
  | .value o => (cX o).map fun x => callX P x xs
  | .invoke o name => (cX o).map fun x => callM P x name xs
  | .builtin b => cBuiltin P b c.argTypes.toList xs

noncomputable def cSlice (P : Program) (t : TypeId) (x : X) (lo hi mx : Option X) : Option Clo := match P.underlying t with
  | some .string => match mx with | none => some (slsR x lo hi) | some _ => none
  | some (.slice e) => (szT P e).map fun n => slvR n x lo hi mx
  | some (.array n e) => match mx with | none => (szT P e).map fun s => slaR n s x lo hi | some _ => none
  | _ => none

noncomputable def cop (P : Program) (o : Oper) : Option Clo := match o.op with
  | .move x => (cX x).map mvR
  | .assign x => (cX x).map mvR
  | .pick c x y => (cX c).bind fun c => (cX x).bind fun x => (cX y).map fun y => pickR c x y
  | .alloc t => (zeroL P t).map fun l => fun _ H => newC (isArr1 P t) l H
  | .box t x => (cX x).map fun x => boxR (isArr1 P t) x
  | .build t ps => (zeroL P t).bind fun z => (placeOf P t).bind fun pl => (cParts pl ps.toList).map fun l => buildR z l
  | .buildSlice t len ps => (elemOfS P t).bind fun e => (zeroL P e).bind fun z => (szT P e).bind fun n => if z.length = n ∧ 0 < n ∧ len * n ≤ 16777216 then (cPairs ps.toList).map fun l => bslR n len z l else none
  | .load t x => (cX x).bind fun x => (aggT P t).bind fun b => (szT P t).map fun n => ldR b n x
  | .store t x y => (cX x).bind fun x => (cX y).bind fun y => (szT P t).map fun n => stR n x y
  | .nilCheck x => (cX x).map nilR
  | .binOp op t x y _ => (cX x).bind fun x' => (cX y).map fun y' => binR P (ekOf P t) (plainK P t) (isK x || isK y) op x' y'
  | .unOp op _ x => (cX x).map fun x => unR op x
  | .convert s d x => (cX x).map fun x => convR (cvOf P s d) x
  | .makeInterface t x => if okIface P t then (cX x).map fun x => mkiR t x else none
  | .slice t x lo hi mx => (cX x).bind fun x => (cXo lo).bind fun lo => (cXo hi).bind fun hi => (cXo mx).bind fun mx => cSlice P t x lo hi mx
  | .fieldAddr t x i => (fieldOf P t i).bind fun f => (szT P f.type).bind fun n => if n ≠ 0 then (cX x).map fun x => faR f.offset x else none
  | .field t x i => (fieldOf P t i).bind fun f => (aggT P f.type).bind fun b => (szT P f.type).bind fun n => (cX x).map fun x => fldR b n f.offset x
  | .indexAddr t x i => (cX x).bind fun x => (cX i).bind fun i => match P.underlying t with
    | some (.slice e) => (szT P e).map fun n => iaS n x i
    | some (.array len e) => (szT P e).map fun n => iaA len n x i
    | _ => none
  | .index t x i => (cX x).bind fun x => (cX i).bind fun i => match P.underlying t with
    | some .string => some (ixR true false 0 0 x i)
    | some (.array len e) => (aggT P e).bind fun b => (szT P e).map fun n => ixR false b len n x i
    | _ => none
  | .extract x i => (cX x).map fun x => extR x i
  | .call c => cCall P c
  | _ => none

theorem bind_some {α β : Type} {x : Option α} {f : α → Option β} {b : β} (h : x.bind f = some b) : ∃ y, x = some y ∧ f y = some b := by
  cases x with
  | none => cases h
  | some y => exact ⟨y, rfl, h⟩
theorem map_some {α β : Type} {x : Option α} {f : α → β} {b : β} (h : x.map f = some b) : ∃ y, x = some y ∧ f y = b := by
  cases x with
  | none => cases h
  | some y => cases h; exact ⟨y, rfl, rfl⟩

def Ran' (P : Program) (φ : Phi) (H : Heap) (w : World) (s : Sem Next) (r : R1) : Prop := Ran P φ H w s r

theorem invoke_builtin (b : Builtin) (c : Call) (hc : c.callee = .builtin b) (ty : TypeId) (ρ : Operand → Value) :
    ∃ k, (do let d ← resolve ρ c ty; invoke d.target d.args : Sem Next) = builtin b c.argTypes ty k (c.args.map ρ) := by
  unfold resolve
  simp only [hc, pure_bind]
  exact ⟨_, rfl⟩

theorem cBuiltin_sound (hw : WRel P φ H w) {b : Builtin} {c : Call} {xs : List X} {g : Clo} (hx : cXs c.args.toList = some xs) (ht : TRelAt P φ T a.tmps (· ∈ tmpsOf c.args.toList)) (h : cBuiltin P b c.argTypes.toList xs = some g) (ty : TypeId) (k : Array Bool) :
    Ran P φ H w (builtin b c.argTypes ty k (c.args.map a.eval)) (g T H) := by
  have one : ∀ {x : X}, xs = [x] → ∃ o, c.args = #[o] ∧ cX o = some x := by
    intro x e
    subst e
    cases hl : c.args.toList with
    | nil => rw [hl] at hx; simp [cXs] at hx
    | cons o l =>
      rw [hl] at hx
      simp only [cXs] at hx
      obtain ⟨y, h1, h2⟩ := bind_some hx
      obtain ⟨r, h3, h4⟩ := map_some h2
      simp only [List.cons.injEq] at h4
      obtain ⟨rfl, rfl⟩ := h4
      cases l with
      | nil => exact ⟨o, by rw [← Array.toArray_toList (xs := c.args), hl], h1⟩
      | cons o2 l => simp only [cXs] at h3; obtain ⟨_, _, h5⟩ := bind_some h3; obtain ⟨_, _, h6⟩ := map_some h5; cases h6
  have two : ∀ {x y : X}, xs = [x, y] → ∃ o p, c.args = #[o, p] ∧ cX o = some x ∧ cX p = some y := by
    intro x y e
    subst e
    cases hl : c.args.toList with
    | nil => rw [hl] at hx; simp [cXs] at hx
    | cons o l =>
      rw [hl] at hx
      simp only [cXs] at hx
      obtain ⟨z, h1, h2⟩ := bind_some hx
      obtain ⟨r, h3, h4⟩ := map_some h2
      simp only [List.cons.injEq] at h4
      obtain ⟨rfl, rfl⟩ := h4
      cases l with
      | nil => simp [cXs] at h3
      | cons p l =>
        simp only [cXs] at h3
        obtain ⟨z, h5, h6⟩ := bind_some h3
        obtain ⟨r, h7, h8⟩ := map_some h6
        simp only [List.cons.injEq] at h8
        obtain ⟨rfl, rfl⟩ := h8
        cases l with
        | nil => exact ⟨o, p, by rw [← Array.toArray_toList (xs := c.args), hl], h1, h5⟩
        | cons q l => simp only [cXs] at h7; obtain ⟨_, _, h9⟩ := bind_some h7; obtain ⟨_, _, h10⟩ := map_some h9; cases h10
  unfold cBuiltin at h
  split at h
  · rename_i t x hts
    cases h
    obtain ⟨o, ha, ho⟩ := one rfl
    have hat : c.argTypes = #[t] := by rw [← Array.toArray_toList (xs := c.argTypes), hts]
    rw [ha] at ht ⊢
    rw [hat, show Array.map a.eval #[o] = #[a.eval o] from by simp]
    exact (len_sound hw ho ht).up
  · rename_i t x hts
    obtain ⟨e, he, rfl⟩ := map_some h
    obtain ⟨o, ha, ho⟩ := one rfl
    have hat : c.argTypes = #[t] := by rw [← Array.toArray_toList (xs := c.argTypes), hts]
    rw [ha] at ht ⊢
    rw [hat, show Array.map a.eval #[o] = #[a.eval o] from by simp]
    have hu : P.underlying t = some (.slice e) := by unfold elemOfS at he; split at he <;> cases he; assumption
    exact (cap_sound hw hu ho ht).up
  · rename_i s t x y hts
    obtain ⟨e, he, h⟩ := bind_some h
    split at h
    case isFalse =>
      split at h
      case isFalse => cases h
      rename_i hin
      obtain ⟨p, hp, h⟩ := bind_some h
      obtain ⟨zl, hzl, rfl⟩ := map_some h
      obtain ⟨o, q, ha, ho, hq⟩ := two rfl
      have hat : c.argTypes = #[s, t] := by rw [← Array.toArray_toList (xs := c.argTypes), hts]
      rw [ha] at ht ⊢
      rw [hat, show Array.map a.eval #[o, q] = #[a.eval o, a.eval q] from by simp]
      have hu : P.underlying s = some (.slice e) := by unfold elemOfS at he; split at he <;> cases he; assumption
      unfold appInfo at hp
      obtain ⟨i, hi, hp⟩ := bind_some hp
      obtain ⟨z, hz, hp⟩ := bind_some hp
      split at hp
      case isFalse => cases hp
      rename_i hc
      cases hp
      have hzl' : ofScalars z.cells.toList = some zl := by
        unfold zeroL at hzl
        simpa [hi, hz] using hzl
      exact apz_sound hw hu hin hi hz hc.1 hc.2.1 (List.all_eq_true.1 hc.2.2.2) hc.2.2.1 hzl' ho hq ht
    rename_i hsl
    obtain ⟨p, hp, rfl⟩ := map_some h
    obtain ⟨o, q, ha, ho, hq⟩ := two rfl
    have hat : c.argTypes = #[s, t] := by rw [← Array.toArray_toList (xs := c.argTypes), hts]
    rw [ha] at ht ⊢
    rw [hat, show Array.map a.eval #[o, q] = #[a.eval o, a.eval q] from by simp]
    have hu : P.underlying s = some (.slice e) := by unfold elemOfS at he; split at he <;> cases he; assumption
    unfold appInfo at hp
    obtain ⟨i, hi, hp⟩ := bind_some hp
    obtain ⟨z, hz, hp⟩ := bind_some hp
    split at hp
    case isFalse => cases hp
    rename_i hc
    cases hp
    exact app_sound hw hu hsl hi hz hc.1 hc.2.1 (List.all_eq_true.1 hc.2.2.2) hc.2.2.1 ho hq ht
  · rename_i s s' x y hts
    obtain ⟨e, he, h⟩ := bind_some h
    obtain ⟨n, hn, rfl⟩ := map_some h
    obtain ⟨o, q, ha, ho, hq⟩ := two rfl
    have hat : c.argTypes = #[s, s'] := by rw [← Array.toArray_toList (xs := c.argTypes), hts]
    rw [ha] at ht ⊢
    rw [hat, show Array.map a.eval #[o, q] = #[a.eval o, a.eval q] from by simp]
    have hu : P.underlying s = some (.slice e) := by unfold elemOfS at he; split at he <;> cases he; assumption
    exact cpy_sound hw hu hn ho hq ht
  · cases h
    obtain ⟨o, q, ha, ho, hq⟩ := two rfl
    rw [ha] at ht ⊢
    rw [show Array.map a.eval #[o, q] = #[a.eval o, a.eval q] from by simp]
    exact (mm_sound hw false ho hq ht _ rfl).up
  · cases h
    obtain ⟨o, q, ha, ho, hq⟩ := two rfl
    rw [ha] at ht ⊢
    rw [show Array.map a.eval #[o, q] = #[a.eval o, a.eval q] from by simp]
    exact (mm_sound hw true ho hq ht _ rfl).up
  · cases h

theorem cCall_sound (hw : WRel P φ H w) {c : Call} {g : Clo} (h : cCall P c = some g) (ht : TRelAt P φ T a.tmps (· ∈ tmpsOf c.operands.toList)) (ty : TypeId) :
    Ran P φ H w (do let d ← resolve a.eval c ty; invoke d.target d.args) (g T H) := by
  unfold cCall at h
  obtain ⟨xs, hxs, h⟩ := bind_some h
  have hsub : TRelAt P φ T a.tmps (· ∈ tmpsOf c.args.toList) := ht.sub fun t h => by
    simp only [tmpsOf, List.mem_filterMap, Call.operands, Array.toList_append, List.mem_append] at h ⊢
    obtain ⟨y, h1, h2⟩ := h
    exact ⟨y, .inr h1, h2⟩
  split at h
  · rename_i f hc
    cases h
    exact callS_sound hw hc hxs hsub ty
  · rename_i o hno hc
    obtain ⟨x, hx, rfl⟩ := map_some h
    refine callX_sound hw hc hx hxs (ht.sub fun t h => ?_) ty
    simp only [tmpsOf, List.mem_filterMap, Call.operands, hc, Array.toList_append, List.mem_append] at h ⊢
    obtain ⟨y, h1, h2⟩ := h
    refine ⟨y, ?_, h2⟩
    simpa using h1
  · rename_i o name hc
    obtain ⟨x, hx, rfl⟩ := map_some h
    refine callM_sound hw hc hx hxs (ht.sub fun t h => ?_) ty
    simp only [tmpsOf, List.mem_filterMap, Call.operands, hc, Array.toList_append, List.mem_append] at h ⊢
    obtain ⟨y, h1, h2⟩ := h
    refine ⟨y, ?_, h2⟩
    simpa using h1
  · rename_i b hc
    obtain ⟨k, hk⟩ := invoke_builtin b c hc ty a.eval
    rw [hk]
    exact cBuiltin_sound hw hxs hsub h ty k

theorem fieldOf_some {t : TypeId} {i : Nat} {f : Field} (h : fieldOf P t i = some f) : ∃ fs, P.underlying t = some (.struct fs) ∧ fs[i]? = some f := by
  unfold fieldOf at h
  split at h
  · exact ⟨_, by assumption, h⟩
  · cases h

theorem cop_sound (hw : WRel P φ H w) {o : Oper} {g : Clo} (h : cop P o = some g) (ht : TRelAt P φ T a.tmps (· ∈ tmpsOf o.op.operands.toList)) : Ran P φ H w (execOp a.eval o) (g T H) := by
  obtain ⟨dst, op, type, pos, after, guard⟩ := o
  unfold cop at h
  cases op <;> dsimp only at h <;> try (cases h; done)
  case move x => obtain ⟨x, hx, rfl⟩ := map_some h; exact (mv_sound hw hx ht _ rfl).up
  case assign x => obtain ⟨x, hx, rfl⟩ := map_some h; exact (mv_sound hw hx ht _ rfl).up
  case pick c x y =>
    obtain ⟨c, hc, h⟩ := bind_some h
    obtain ⟨x, hx, h⟩ := bind_some h
    obtain ⟨y, hy, rfl⟩ := map_some h
    exact (pick_sound hw hc hx hy ht).up
  case alloc t => obtain ⟨l, hl, rfl⟩ := map_some h; exact (alloc_sound hl _).up hw
  case box t x => obtain ⟨x, hx, rfl⟩ := map_some h; exact (box_sound _ hx ht).up hw
  case build t ps =>
    obtain ⟨z, hz, h⟩ := bind_some h
    obtain ⟨pl, hpl, h⟩ := bind_some h
    obtain ⟨l, hl, rfl⟩ := map_some h
    exact build_sound hw hz hpl hl (by simpa [Op.operands, opsOf] using ht)
  case buildSlice t len ps =>
    obtain ⟨e, he, h⟩ := bind_some h
    obtain ⟨z, hz, h⟩ := bind_some h
    obtain ⟨n, hn, h⟩ := bind_some h
    split at h
    case isFalse => cases h
    rename_i hc
    obtain ⟨l, hl, rfl⟩ := map_some h
    have hu : P.underlying t = some (.slice e) := by unfold elemOfS at he; split at he <;> cases he; assumption
    exact (bsl_sound w hu hz hn hc.1 hc.2.1 len hc.2.2 hl (by simpa [Op.operands, opsOf] using ht)).up hw
  case load t x =>
    obtain ⟨x, hx, h⟩ := bind_some h
    obtain ⟨b, hb, h⟩ := bind_some h
    obtain ⟨n, hn, rfl⟩ := map_some h
    exact (ld_sound hw hb hn hx ht).up
  case store t x y =>
    obtain ⟨x, hx, h⟩ := bind_some h
    obtain ⟨y, hy, h⟩ := bind_some h
    obtain ⟨n, hn, rfl⟩ := map_some h
    exact st_sound hw hn hx hy ht
  case nilCheck x => obtain ⟨x, hx, rfl⟩ := map_some h; exact (nil_sound hw hx ht _ rfl).up
  case binOp op t x y s =>
    obtain ⟨x, hx, h⟩ := bind_some h
    obtain ⟨y, hy, rfl⟩ := map_some h
    exact (bin_sound hw hx hy ht op _ rfl).up
  case unOp op t x => obtain ⟨x, hx, rfl⟩ := map_some h; exact (un_sound hw hx ht op).up
  case convert s d x => obtain ⟨x, hx, rfl⟩ := map_some h; exact conv_sound hw hx ht
  case makeInterface t x =>
    split at h
    case isFalse => cases h
    rename_i hok
    obtain ⟨x, hx, rfl⟩ := map_some h
    unfold okIface at hok
    split at hok
    · cases hok
    · rename_i d hne hu; exact (mki_sound hw hu (fun m e => hne m e) hx ht).up
    · cases hok
  case slice t x lo hi mx =>
    obtain ⟨x, hx, h⟩ := bind_some h
    obtain ⟨lo', hlo, h⟩ := bind_some h
    obtain ⟨hi', hhi, h⟩ := bind_some h
    obtain ⟨mx', hmx, h⟩ := bind_some h
    unfold cSlice at h
    split at h
    · rename_i hu
      split at h
      · cases h
        have : mx = none := by cases mx with | none => rfl | some m => simp only [cXo] at hmx; obtain ⟨_, _, e⟩ := map_some hmx; cases e
        subst this
        exact (sls_sound hw hu hx hlo hhi (ht.sub fun t h => by simp only [tmpsOf, List.mem_filterMap, Op.operands] at h ⊢; simpa using h)).up
      · cases h
    · rename_i e hu
      obtain ⟨n, hn, rfl⟩ := map_some h
      exact (slv_sound hw hu hn hx hlo hhi hmx (ht.sub fun t h => by simp only [tmpsOf, List.mem_filterMap, Op.operands] at h ⊢; simpa using h)).up
    · rename_i n e hu
      split at h
      · obtain ⟨s, hs, rfl⟩ := map_some h
        have : mx = none := by cases mx with | none => rfl | some m => simp only [cXo] at hmx; obtain ⟨_, _, e⟩ := map_some hmx; cases e
        subst this
        exact (sla_sound hw hu hs hx hlo hhi (ht.sub fun t h => by simp only [tmpsOf, List.mem_filterMap, Op.operands] at h ⊢; simpa using h)).up
      · cases h
    · cases h
  case fieldAddr t x i =>
    obtain ⟨f, hf, h⟩ := bind_some h
    obtain ⟨n, hn, h⟩ := bind_some h
    split at h
    case isFalse => cases h
    rename_i h0
    obtain ⟨x, hx, rfl⟩ := map_some h
    obtain ⟨fs, hu, hi⟩ := fieldOf_some hf
    exact (fa_sound hw hu hi hn h0 hx ht).up
  case field t x i =>
    obtain ⟨f, hf, h⟩ := bind_some h
    obtain ⟨b, hb, h⟩ := bind_some h
    obtain ⟨n, hn, h⟩ := bind_some h
    obtain ⟨x, hx, rfl⟩ := map_some h
    obtain ⟨fs, hu, hi⟩ := fieldOf_some hf
    exact (fld_sound hw hu hi hb hn hx ht).up
  case indexAddr t x i =>
    obtain ⟨x, hx, h⟩ := bind_some h
    obtain ⟨i, hi, h⟩ := bind_some h
    split at h
    · rename_i e hu
      obtain ⟨n, hn, rfl⟩ := map_some h
      exact (iaS_sound hw hu hn hx hi ht).up
    · rename_i len e hu
      obtain ⟨n, hn, rfl⟩ := map_some h
      exact (iaA_sound hw hu hn hx hi ht).up
    · cases h
  case index t x i =>
    obtain ⟨x, hx, h⟩ := bind_some h
    obtain ⟨i, hi, h⟩ := bind_some h
    split at h
    · rename_i hu
      cases h
      exact (ixS_sound hw hu hx hi ht).up
    · rename_i len e hu
      obtain ⟨b, hb, h⟩ := bind_some h
      obtain ⟨n, hn, rfl⟩ := map_some h
      exact (ixA_sound hw hu hb hn hx hi ht).up
    · cases h
  case extract x i => obtain ⟨x, hx, rfl⟩ := map_some h; exact (ext_sound hw hx ht i).up
  case call c => exact cCall_sound hw h ht _


/-! ### Operations that make a block, and do nothing else -/
def allocOp : Op → Bool
  | .alloc _ | .box _ _ | .buildSlice _ _ _ => true
  | _ => false
theorem cop_alloc {o : Oper} {g : Clo} (h : cop P o = some g) (hq : allocOp o.op = true) (ht : TRelAt P φ T a.tmps (· ∈ tmpsOf o.op.operands.toList)) (H : Heap) (w : World) : RanA P φ H w (execOp a.eval o) (g T H) := by
  obtain ⟨dst, op, type, pos, after, guard⟩ := o
  unfold cop at h
  cases op <;> dsimp only at h <;> try (cases hq; done)
  case alloc t => obtain ⟨l, hl, rfl⟩ := map_some h; exact alloc_sound hl _
  case box t x => obtain ⟨x, hx, rfl⟩ := map_some h; exact box_sound _ hx ht
  case buildSlice t len ps =>
    obtain ⟨e, he, h⟩ := bind_some h
    obtain ⟨z, hz, h⟩ := bind_some h
    obtain ⟨n, hn, h⟩ := bind_some h
    split at h
    case isFalse => cases h
    rename_i hc
    obtain ⟨l, hl, rfl⟩ := map_some h
    have hu : P.underlying t = some (.slice e) := by unfold elemOfS at he; split at he <;> cases he; assumption
    exact bsl_sound w hu hz hn hc.1 hc.2.1 len hc.2.2 hl (by simpa [Op.operands, opsOf] using ht)

/-! ### Operations that leave memory alone -/
def quietOp : Op → Bool
  | .move _ | .pick _ _ _ | .load _ _ | .nilCheck _ | .binOp _ _ _ _ _ | .unOp _ _ _ | .makeInterface _ _ | .slice _ _ _ _ _ | .fieldAddr _ _ _ | .field _ _ _ | .indexAddr _ _ _ | .index _ _ _ | .extract _ _ => true
  | .call { callee := .builtin .len, .. } => true
  | _ => false

theorem cop_quiet (hw : WRel P φ H w) {o : Oper} {g : Clo} (h : cop P o = some g) (hq : quietOp o.op = true) (ht : TRelAt P φ T a.tmps (· ∈ tmpsOf o.op.operands.toList)) : Ran0 P φ H w (execOp a.eval o) (g T H) := by
  obtain ⟨dst, op, type, pos, after, guard⟩ := o
  unfold cop at h
  cases op <;> dsimp only at h <;> try (cases hq; done)
  case move x => obtain ⟨x, hx, rfl⟩ := map_some h; exact mv_sound hw hx ht _ rfl
  case pick c x y =>
    obtain ⟨c, hc, h⟩ := bind_some h
    obtain ⟨x, hx, h⟩ := bind_some h
    obtain ⟨y, hy, rfl⟩ := map_some h
    exact pick_sound hw hc hx hy ht
  case load t x =>
    obtain ⟨x, hx, h⟩ := bind_some h
    obtain ⟨b, hb, h⟩ := bind_some h
    obtain ⟨n, hn, rfl⟩ := map_some h
    exact ld_sound hw hb hn hx ht
  case nilCheck x => obtain ⟨x, hx, rfl⟩ := map_some h; exact nil_sound hw hx ht _ rfl
  case binOp op t x y s =>
    obtain ⟨x, hx, h⟩ := bind_some h
    obtain ⟨y, hy, rfl⟩ := map_some h
    exact bin_sound hw hx hy ht op _ rfl
  case unOp op t x => obtain ⟨x, hx, rfl⟩ := map_some h; exact un_sound hw hx ht op
  case makeInterface t x =>
    split at h
    case isFalse => cases h
    rename_i hok
    obtain ⟨x, hx, rfl⟩ := map_some h
    unfold okIface at hok
    split at hok
    · cases hok
    · rename_i d hne hu; exact mki_sound hw hu (fun m e => hne m e) hx ht
    · cases hok
  case slice t x lo hi mx =>
    obtain ⟨x, hx, h⟩ := bind_some h
    obtain ⟨lo', hlo, h⟩ := bind_some h
    obtain ⟨hi', hhi, h⟩ := bind_some h
    obtain ⟨mx', hmx, h⟩ := bind_some h
    unfold cSlice at h
    split at h
    · rename_i hu
      split at h
      · cases h
        have : mx = none := by cases mx with | none => rfl | some m => simp only [cXo] at hmx; obtain ⟨_, _, e⟩ := map_some hmx; cases e
        subst this
        exact sls_sound hw hu hx hlo hhi (ht.sub fun t h => by simp only [tmpsOf, List.mem_filterMap, Op.operands] at h ⊢; simpa using h)
      · cases h
    · rename_i e hu
      obtain ⟨n, hn, rfl⟩ := map_some h
      exact slv_sound hw hu hn hx hlo hhi hmx (ht.sub fun t h => by simp only [tmpsOf, List.mem_filterMap, Op.operands] at h ⊢; simpa using h)
    · rename_i n e hu
      split at h
      · obtain ⟨s, hs, rfl⟩ := map_some h
        have : mx = none := by cases mx with | none => rfl | some m => simp only [cXo] at hmx; obtain ⟨_, _, e⟩ := map_some hmx; cases e
        subst this
        exact sla_sound hw hu hs hx hlo hhi (ht.sub fun t h => by simp only [tmpsOf, List.mem_filterMap, Op.operands] at h ⊢; simpa using h)
      · cases h
    · cases h
  case fieldAddr t x i =>
    obtain ⟨f, hf, h⟩ := bind_some h
    obtain ⟨n, hn, h⟩ := bind_some h
    split at h
    case isFalse => cases h
    rename_i h0
    obtain ⟨x, hx, rfl⟩ := map_some h
    obtain ⟨fs, hu, hi⟩ := fieldOf_some hf
    exact fa_sound hw hu hi hn h0 hx ht
  case field t x i =>
    obtain ⟨f, hf, h⟩ := bind_some h
    obtain ⟨b, hb, h⟩ := bind_some h
    obtain ⟨n, hn, h⟩ := bind_some h
    obtain ⟨x, hx, rfl⟩ := map_some h
    obtain ⟨fs, hu, hi⟩ := fieldOf_some hf
    exact fld_sound hw hu hi hb hn hx ht
  case indexAddr t x i =>
    obtain ⟨x, hx, h⟩ := bind_some h
    obtain ⟨i, hi, h⟩ := bind_some h
    split at h
    · rename_i e hu
      obtain ⟨n, hn, rfl⟩ := map_some h
      exact iaS_sound hw hu hn hx hi ht
    · rename_i len e hu
      obtain ⟨n, hn, rfl⟩ := map_some h
      exact iaA_sound hw hu hn hx hi ht
    · cases h
  case index t x i =>
    obtain ⟨x, hx, h⟩ := bind_some h
    obtain ⟨i, hi, h⟩ := bind_some h
    split at h
    · rename_i hu
      cases h
      exact ixS_sound hw hu hx hi ht
    · rename_i len e hu
      obtain ⟨b, hb, h⟩ := bind_some h
      obtain ⟨n, hn, rfl⟩ := map_some h
      exact ixA_sound hw hu hb hn hx hi ht
    · cases h
  case extract x i => obtain ⟨x, hx, rfl⟩ := map_some h; exact ext_sound hw hx ht i
  case call c =>
    obtain ⟨callee, args, ats⟩ := c
    cases callee <;> try (cases hq; done)
    rename_i b
    cases b <;> try (cases hq; done)
    unfold cCall at h
    obtain ⟨xs, hxs, h⟩ := bind_some h
    dsimp only at h hxs
    unfold cBuiltin at h
    split at h
    · cases h
      rename_i t x _ hat
      cases hl : args.toList with
      | nil => rw [hl] at hxs; simp [cXs] at hxs
      | cons o l =>
        rw [hl] at hxs
        simp only [cXs] at hxs
        obtain ⟨y, h1, h2⟩ := bind_some hxs
        obtain ⟨r, h3, h4⟩ := map_some h2
        simp only [List.cons.injEq] at h4
        obtain ⟨rfl, rfl⟩ := h4
        cases l with
        | cons o2 l => simp only [cXs] at h3; obtain ⟨_, _, h5⟩ := bind_some h3; obtain ⟨_, _, h6⟩ := map_some h5; cases h6
        | nil =>
          have ha : args = #[o] := by rw [← Array.toArray_toList (xs := args), hl]
          have hat' : ats = #[t] := by rw [← Array.toArray_toList (xs := ats), hat]
          subst ha hat'
          obtain ⟨k, hk⟩ := invoke_builtin .len { callee := .builtin .len, args := #[o], argTypes := #[t] } rfl type a.eval
          show Ran0 P φ H w (do let d ← resolve a.eval { callee := .builtin .len, args := #[o], argTypes := #[t] } type; invoke d.target d.args) _
          rw [hk]
          show Ran0 P φ H w (builtin .len #[t] type k (Array.map a.eval #[o])) _
          rw [show Array.map a.eval #[o] = #[a.eval o] from by simp]
          exact len_sound hw h1 (by simpa [Op.operands, Call.operands] using ht)
    all_goals first | (cases h; done) | (rename_i e1 e2 e3; cases e1; done) | (rename_i e1 e2; cases e1; done) | (rename_i e1; cases e1; done)
end Go.Ev
/- Statements: regions in the text's order, branches, loops, calls: the evaluator whole. -/

namespace Go.Ev
variable {P : Program} {φ : Phi} {H : Heap} {w u : World} {T : Tr AV} {a : Act}

inductive Ex where
  | norm
  | exit (n : Nat)
  | ret
inductive Res where
  | fail
  | ok (e : Ex) (T : Tr AV) (H : Heap)
inductive RC where
  | fail
  | ok (v : AV) (H : Heap)

/-! ### Guards -/
inductive Gd where
  | no
  | on (k : K) (want : Bool)
noncomputable def eqB (a b : Bool) : Bool := bif' a b (Bool.not b)
noncomputable def gdC {β : Type} (T : Tr AV) (gd : Gd) (f yes no : β) : β :=
  Gd.rec (motive := fun _ => β) yes (fun k want => Option.rec (motive := fun _ => β) f (fun v => asBoolC v (asTupC v f fun _ => no) fun b => bif' (eqB b want) yes no) (T.get k)) gd
noncomputable def gdOf (ops : Array Oper) (o : Oper) : Option Gd := match o.guard with
  | none => some .no
  | some (j, want) => ((ops[j]?).bind (·.dst)).map fun d => .on (keyOf d) want
/-- the slot that a guard looks at -/
def gdTmp (ops : Array Oper) (o : Oper) : List Nat := match o.guard with
  | none => []
  | some (j, _) => ((ops[j]?).bind (·.dst)).toList

theorem gdC_sound {β : Type} {ops : Array Oper} {o : Oper} {gd : Gd} (h : gdOf ops o = some gd) (ht : TRelAt P φ T a.tmps (· ∈ gdTmp ops o)) (f yes no : β) :
    gdC T gd f yes no = f ∨ (gdC T gd f yes no = yes ∧ Region.wanted o (yielded ops a.tmps) = true) ∨ (gdC T gd f yes no = no ∧ Region.wanted o (yielded ops a.tmps) = false) := by
  unfold gdOf at h
  split at h
  · rename_i hg
    cases h
    exact .inr (.inl ⟨rfl, by simp [Region.wanted, hg]⟩)
  · rename_i j want hg
    obtain ⟨d, hd, rfl⟩ := map_some h
    show Option.rec (motive := fun _ => β) f (fun v => asBoolC v (asTupC v f fun _ => no) fun b => bif' (eqB b want) yes no) (T.get (keyOf d)) = f ∨ _
    cases hv : T.get (keyOf d) with
    | none => exact .inl rfl
    | some v =>
      obtain ⟨v', h1, h2⟩ := ht d v (by simp [gdTmp, hg, hd]) hv
      have hy : yielded ops a.tmps j = match v' with | .bool b => some b | _ => none := by
        unfold yielded
        rw [hd]
        simp only [Option.bind_some, h1]
        cases v' <;> rfl
      have hw : Region.wanted o (yielded ops a.tmps) = (yielded ops a.tmps j == some want) := by simp [Region.wanted, hg]
      cases h2 <;> try exact .inl rfl
      · rename_i b
        have hb : gdC T (.on (keyOf d) want) f yes no = bif' (eqB b want) yes no := by
          show Option.rec (motive := fun _ => β) f (fun v => asBoolC v (asTupC v f fun _ => no) fun b => bif' (eqB b want) yes no) (T.get (keyOf d)) = _
          rw [hv]; rfl
        rw [hw, hy]
        right
        cases b <;> cases want <;> first | exact .inl ⟨hb, rfl⟩ | exact .inr ⟨hb, rfl⟩
      · right; right
        refine ⟨?_, by rw [hw, hy]; rfl⟩
        show Option.rec (motive := fun _ => β) f (fun v => asBoolC v (asTupC v f fun _ => no) fun b => bif' (eqB b want) yes no) (T.get (keyOf d)) = _
        rw [hv]; rfl

/-! ### One step of a region -/
noncomputable def putT {β : Type} (T : Tr AV) (dst : Option K) (v : AV) (c : Tr AV → β) : β := Option.rec (motive := fun _ => β) (c T) (fun k => T.setC k (some v) c) dst
def putS (T : Tr AV) (dst : Option K) (v : AV) (T' : Tr AV) : Prop := ∀ j, T'.get j = if dst = some j then some v else T.get j
theorem putT_eq {β : Type} (T : Tr AV) (dst : Option K) (v : AV) (c : Tr AV → β) : ∃ T', putT T dst v c = c T' ∧ putS T dst v T' := by
  cases dst with
  | none => exact ⟨T, rfl, fun j => by simp⟩
  | some k =>
    refine ⟨T.set k (some v), Tr.setC_eq _ _ _ _, fun j => ?_⟩
    rw [Tr.get_set]
    simp

inductive Rk where
  | mk (g : Clo) (dst : Option K) (gd : Gd)
inductive Stp where
  | mk (g : Clo) (dst : Option K) (gd : Gd) (re : List Rk)

/-- the slots, against the model's -/
structure TR (P : Program) (φ : Phi) (N : Nat) (T : Tr AV) (tmps : Array Value) : Prop where
  size : N ≤ tmps.size
  get : ∀ t v, T.get (keyOf t) = some v → ∃ v', tmps[t]? = some v' ∧ VRel P φ v v'
theorem TR.at {N : Nat} {tmps : Array Value} (h : TR P φ N T tmps) (p : Nat → Prop) : TRelAt P φ T tmps p := fun t v _ hv => h.get t v hv
theorem TR.mono {N : Nat} {ψ : Phi} {tmps : Array Value} (hl : φ.le ψ) (h : TR P φ N T tmps) : TR P ψ N T tmps := ⟨h.size, fun t v hv => let ⟨v', h1, h2⟩ := h.get t v hv; ⟨v', h1, h2.mono hl⟩⟩
theorem TR.put {N : Nat} {d : Option Tmp} {v : AV} {v' : Value} {T' : Tr AV} (h : TR P φ N T a.tmps) (hd : ∀ x, d = some x → x < N) (hv : VRel P φ v v') (hp : putS T (d.map keyOf) v T') : TR P φ N T' (a.put d v').tmps := by
  cases d with
  | none =>
    refine ⟨h.size, fun t x hx => ?_⟩
    rw [hp] at hx
    simp only [Option.map_none, reduceCtorEq, if_false] at hx
    exact h.get t x hx
  | some d =>
    have hlt : (d : Nat) < N := hd d rfl
    have hsz := h.size
    refine ⟨by simp only [Act.put, Array.size_setIfInBounds]; exact hsz, fun t x hx => ?_⟩
    rw [hp] at hx
    simp only [Option.map_some, Option.some.injEq] at hx
    by_cases e : keyOf d = keyOf t
    · rw [if_pos e] at hx
      cases hx
      have := keyOf_inj e; subst this
      refine ⟨v', ?_, hv⟩
      simp only [Act.put, Array.getElem?_setIfInBounds]
      rw [if_pos trivial, if_pos (Nat.lt_of_lt_of_le hlt hsz)]
    · rw [if_neg e] at hx
      obtain ⟨x', h1, h2⟩ := h.get t x hx
      refine ⟨x', ?_, h2⟩
      simp only [Act.put, Array.getElem?_setIfInBounds]
      rw [if_neg (fun e2 => e (by rw [e2])), h1]

section
variable {β : Type}
/-- what lies in the slot is v -/
noncomputable def isC (eqv : AV → AV → Bool) (T : Tr AV) (dst : Option K) (v : AV) (f c : β) : β :=
  Option.rec (motive := fun _ => β) c (fun k => Option.rec (motive := fun _ => β) f (fun u => bif' (eqv v u) c f) (T.get k)) dst
/-- looked at again: what was read then is what is read now -/
noncomputable def reC (eqv : AV → AV → Bool) (T : Tr AV) (H : Heap) (re : List Rk) (f c : β) : β :=
  List.rec (motive := fun _ => β) c (fun r _ ih => Rk.rec (motive := fun _ => β) (fun g k gd => gdC T gd f (R1.rec (motive := fun _ => β) f (fun v _ => isC eqv T k v f ih) (fun _ _ => f) (g T H)) (isC eqv T k (.tup []) f ih)) r) re
noncomputable def stepC (eqv : AV → AV → Bool) (E : FuncId → List AV → Heap → RC) (st : Stp) (T : Tr AV) (H : Heap) (f : β) (c : Tr AV → Heap → β) : β :=
  Stp.rec (motive := fun _ => β) (fun g dst gd re => gdC T gd f
    (R1.rec (motive := fun _ => β) f (fun v G => putT T dst v fun T => reC eqv T G re f (c T G)) (fun fn args => RC.rec (motive := fun _ => β) f (fun v G => putT T dst v fun T => reC eqv T G re f (c T G)) (E fn args H)) (g T H))
    (putT T dst (.tup []) fun T => c T H)) st
noncomputable def stepsC (eqv : AV → AV → Bool) (E : FuncId → List AV → Heap → RC) (l : List Stp) : Tr AV → Heap → β → (Tr AV → Heap → β) → β :=
  List.rec (motive := fun _ => Tr AV → Heap → β → (Tr AV → Heap → β) → β) (fun T H _ c => c T H) (fun st _ ih T H f c => stepC eqv E st T H f fun T H => ih T H f c) l
end


/-! The same, its answer as a value: what was handed on. -/
theorem gdC_sel (T : Tr AV) (gd : Gd) : (∀ {β : Type} (f yes no : β), gdC T gd f yes no = f) ∨ (∀ {β : Type} (f yes no : β), gdC T gd f yes no = yes) ∨ (∀ {β : Type} (f yes no : β), gdC T gd f yes no = no) := by
  cases gd with
  | no => exact .inr (.inl fun _ _ _ => rfl)
  | on k want =>
    cases hv : T.get k with
    | none =>
      left; intro β f yes no
      show Option.rec (motive := fun _ => β) f (fun v => asBoolC v (asTupC v f fun _ => no) fun b => bif' (eqB b want) yes no) (T.get k) = _
      rw [hv]
    | some v =>
      have hgd : ∀ {β : Type} (f yes no : β), gdC T (.on k want) f yes no = asBoolC v (asTupC v f fun _ => no) fun b => bif' (eqB b want) yes no := by
        intro β f yes no
        show Option.rec (motive := fun _ => β) f (fun v => asBoolC v (asTupC v f fun _ => no) fun b => bif' (eqB b want) yes no) (T.get k) = _
        rw [hv]
      cases v <;> first
        | (left; intro β f yes no; rw [hgd]; rfl)
        | (right; right; intro β f yes no; rw [hgd]; rfl)
        | skip
      rename_i b
      cases hb : eqB b want
      · right; right; intro β f yes no; rw [hgd]; show bif' (eqB b want) yes no = no; rw [hb]; rfl
      · right; left; intro β f yes no; rw [hgd]; show bif' (eqB b want) yes no = yes; rw [hb]; rfl
theorem putT_sel (T : Tr AV) (dst : Option K) (v : AV) : ∃ T', putS T dst v T' ∧ ∀ {β : Type} (c : Tr AV → β), putT T dst v c = c T' := by
  cases dst with
  | none => exact ⟨T, fun j => by simp, fun c => rfl⟩
  | some k => exact ⟨T.set k (some v), fun j => by rw [Tr.get_set]; simp, fun c => Tr.setC_eq _ _ _ _⟩
/-- What a slot holds, by its very value. -/
def Holds (eqv : AV → AV → Bool) (T : Tr AV) (dst : Option K) (v : AV) : Prop := ∀ k, dst = some k → ∃ u, T.get k = some u ∧ eqv v u = true
theorem isC_sel (eqv : AV → AV → Bool) (T : Tr AV) (dst : Option K) (v : AV) : (∀ {β : Type} (f c : β), isC eqv T dst v f c = f) ∨ (Holds eqv T dst v ∧ ∀ {β : Type} (f c : β), isC eqv T dst v f c = c) := by
  cases dst with
  | none => exact .inr ⟨fun k h => (by cases h), fun f c => rfl⟩
  | some k =>
    have hrw : ∀ {β : Type} (f c : β), isC eqv T (some k) v f c = Option.rec (motive := fun _ => β) f (fun u => bif' (eqv v u) c f) (T.get k) := fun f c => rfl
    cases hk : T.get k with
    | none => left; intro β f c; rw [hrw, hk]
    | some u =>
      cases he : eqv v u
      · left; intro β f c; rw [hrw, hk]; show bif' (eqv v u) c f = f; rw [he]; rfl
      · refine .inr ⟨fun k' e => by cases e; exact ⟨u, hk, he⟩, fun {β} f c => ?_⟩
        rw [hrw, hk]; show bif' (eqv v u) c f = c; rw [he]; rfl
/-- What was seen when it was looked at again. -/
def Seen (eqv : AV → AV → Bool) (T : Tr AV) (H : Heap) : Rk → Prop
  | .mk g k gd => ((∀ {β : Type} (f yes no : β), gdC T gd f yes no = yes) ∧ ∃ v G, g T H = .val v G ∧ Holds eqv T k v) ∨ ((∀ {β : Type} (f yes no : β), gdC T gd f yes no = no) ∧ Holds eqv T k (.tup []))
theorem reC_sel (eqv : AV → AV → Bool) (T : Tr AV) (H : Heap) : ∀ (re : List Rk), (∀ {β : Type} (f c : β), reC eqv T H re f c = f) ∨ ((∀ r ∈ re, Seen eqv T H r) ∧ ∀ {β : Type} (f c : β), reC eqv T H re f c = c)
  | [] => .inr ⟨fun r h => by simp at h, fun f c => rfl⟩
  | .mk g k gd :: re => by
    have hrw : ∀ {β : Type} (f c : β), reC eqv T H (.mk g k gd :: re) f c = gdC T gd f (R1.rec (motive := fun _ => β) f (fun v _ => isC eqv T k v f (reC eqv T H re f c)) (fun _ _ => f) (g T H)) (isC eqv T k (.tup []) f (reC eqv T H re f c)) := fun f c => rfl
    rcases gdC_sel T gd with h | h | h
    · left; intro β f c; rw [hrw, h]
    · cases hg : g T H with
      | fail => left; intro β f c; rw [hrw, h, hg]
      | call _ _ => left; intro β f c; rw [hrw, h, hg]
      | val v G =>
        rcases isC_sel eqv T k v with h1 | ⟨hh, h1⟩
        · left; intro β f c; rw [hrw, h, hg]; exact h1 _ _
        · rcases reC_sel eqv T H re with h2 | ⟨hs, h2⟩
          · left; intro β f c; rw [hrw, h, hg]; show isC eqv T k v f _ = f; rw [h1, h2]
          · refine .inr ⟨fun r hr => ?_, fun {β} f c => by rw [hrw, h, hg]; show isC eqv T k v f _ = c; rw [h1, h2]⟩
            rcases List.mem_cons.1 hr with rfl | hr
            · exact .inl ⟨h, v, G, hg, hh⟩
            · exact hs r hr
    · rcases isC_sel eqv T k (.tup []) with h1 | ⟨hh, h1⟩
      · left; intro β f c; rw [hrw, h, h1]
      · rcases reC_sel eqv T H re with h2 | ⟨hs, h2⟩
        · left; intro β f c; rw [hrw, h, h1, h2]
        · refine .inr ⟨fun r hr => ?_, fun {β} f c => by rw [hrw, h, h1, h2]⟩
          rcases List.mem_cons.1 hr with rfl | hr
          · exact .inr ⟨h, hh⟩
          · exact hs r hr

noncomputable def stepR (eqv : AV → AV → Bool) (E : FuncId → List AV → Heap → RC) (st : Stp) (T : Tr AV) (H : Heap) : Option (Tr AV × Heap) := stepC eqv E st T H none fun T H => some (T, H)
noncomputable def stepsR (eqv : AV → AV → Bool) (E : FuncId → List AV → Heap → RC) (l : List Stp) (T : Tr AV) (H : Heap) : Option (Tr AV × Heap) := stepsC eqv E l T H none fun T H => some (T, H)
theorem stepC_eq {β : Type} (eqv : AV → AV → Bool) (E : FuncId → List AV → Heap → RC) (st : Stp) (T : Tr AV) (H : Heap) (f : β) (c : Tr AV → Heap → β) : stepC eqv E st T H f c = match stepR eqv E st T H with | some (T, H) => c T H | none => f := by
  obtain ⟨g, dst, gd, re⟩ := st
  have hrw : ∀ {γ : Type} (f : γ) (c : Tr AV → Heap → γ), stepC eqv E (.mk g dst gd re) T H f c = gdC T gd f
    (R1.rec (motive := fun _ => γ) f (fun v G => putT T dst v fun T => reC eqv T G re f (c T G)) (fun fn args => RC.rec (motive := fun _ => γ) f (fun v G => putT T dst v fun T => reC eqv T G re f (c T G)) (E fn args H)) (g T H))
    (putT T dst (.tup []) fun T => c T H) := fun f c => rfl
  unfold stepR
  rw [hrw, hrw]
  rcases gdC_sel T gd with h | h | h <;> rw [h, h]
  · cases g T H with
    | fail => rfl
    | val v G =>
      obtain ⟨T', _, hp⟩ := putT_sel T dst v
      show putT T dst v _ = match putT T dst v _ with | some (T, H) => c T H | none => f
      rw [hp, hp]
      rcases reC_sel eqv T' G re with h2 | ⟨_, h2⟩ <;> rw [h2, h2]
    | call fn args =>
      show RC.rec (motive := fun _ => β) f _ (E fn args H) = match (RC.rec (motive := fun _ => Option (Tr AV × Heap)) none _ (E fn args H) : Option (Tr AV × Heap)) with | some (T, H) => c T H | none => f
      cases E fn args H with
      | fail => rfl
      | ok v G =>
        obtain ⟨T', _, hp⟩ := putT_sel T dst v
        show putT T dst v _ = match putT T dst v _ with | some (T, H) => c T H | none => f
        rw [hp, hp]
        rcases reC_sel eqv T' G re with h2 | ⟨_, h2⟩ <;> rw [h2, h2]
  · obtain ⟨T', _, hp⟩ := putT_sel T dst (.tup [])
    rw [hp, hp]
theorem stepsC_eq {β : Type} (eqv : AV → AV → Bool) (E : FuncId → List AV → Heap → RC) : ∀ (l : List Stp) (T : Tr AV) (H : Heap) (f : β) (c : Tr AV → Heap → β), stepsC eqv E l T H f c = match stepsR eqv E l T H with | some (T, H) => c T H | none => f
  | [], T, H, f, c => rfl
  | st :: l, T, H, f, c => by
    have h1 : ∀ {γ : Type} (f : γ) (c : Tr AV → Heap → γ), stepsC eqv E (st :: l) T H f c = stepC eqv E st T H f fun T H => stepsC eqv E l T H f c := fun f c => rfl
    unfold stepsR
    rw [h1, h1, stepC_eq, stepC_eq]
    cases stepR eqv E st T H with
    | none => rfl
    | some p => exact stepsC_eq eqv E l p.1 p.2 f c
theorem stepsR_cons (eqv : AV → AV → Bool) (E : FuncId → List AV → Heap → RC) (st : Stp) (l : List Stp) (T : Tr AV) (H : Heap) : stepsR eqv E (st :: l) T H = match stepR eqv E st T H with | some (T, H) => stepsR eqv E l T H | none => none := by
  have : stepsR eqv E (st :: l) T H = stepC eqv E st T H none fun T H => stepsC eqv E l T H none fun T H => some (T, H) := rfl
  rw [this, stepC_eq]
  rfl

/-- What is known of a call that is reckoned. -/
def Good (P : Program) (E : FuncId → List AV → Heap → RC) : Prop :=
  ∀ f args H v G, E f args H = .ok v G → ∀ (φ : Phi) (w : World) (args' : Array Value), VRels P φ args args'.toList → WRel P φ H w →
    Calls P f args' w fun e u => ∃ ψ v', e = .returned v' ∧ VRel P ψ v v' ∧ WRel P ψ G u ∧ Ext φ H w ψ G u

/-- a step without anything looked at again -/
noncomputable def stpOf (P : Program) (ops : Array Oper) (o : Oper) : Option Stp := (cop P o).bind fun g => (gdOf ops o).map fun gd => .mk g (o.dst.map keyOf) gd []

/-- what a region ends in -/
structure At2 (P : Program) (φ : Phi) (H : Heap) (w : World) (N : Nat) (T' : Tr AV) (H' : Heap) (a : Act) (u : World) : Prop where
  defers : a.defers = []
  rel : ∃ ψ, TR P ψ N T' a.tmps ∧ WRel P ψ H' u ∧ Ext φ H w ψ H' u

theorem At2.trans {ψ : Phi} {G : Heap} {N : Nat} {T' : Tr AV} {H' : Heap} {v : World} (he : Ext φ H w ψ G u) (h : At2 P ψ G u N T' H' a v) : At2 P φ H w N T' H' a v :=
  ⟨h.defers, let ⟨χ, x, y, z⟩ := h.rel; ⟨χ, x, y, he.trans z⟩⟩

/-- ONE OPERATION, run where it is wanted, handed on to whatever comes behind it. -/
theorem op_sound {E : FuncId → List AV → Heap → RC} (hE : Good P E) {eqv : AV → AV → Bool} {ops : Array Oper} {Q : Exit → Act → World → Prop} {N : Nat} {i : Nat} {o : Oper} (ho : ops[i]? = some o) {st : Stp} (hst : stpOf P ops o = some st) (hd : ∀ d, o.dst = some d → d < N)
    (hw : WRel P φ H w) (ht : TR P φ N T a.tmps) (hdef : a.defers = []) {T' : Tr AV} {H' : Heap} (h : stepR eqv E st T H = some (T', H')) {next : Act → World → Prop} (hn : ∀ a' u, At2 P φ H w N T' H' a' u → next a' u) : wpOp P ops Q i next a w := by
  unfold stpOf at hst
  obtain ⟨g, hg, hst⟩ := bind_some hst
  obtain ⟨gd, hgd, rfl⟩ := map_some hst
  have hrw : stepR eqv E (.mk g (o.dst.map keyOf) gd []) T H = gdC T gd none (R1.rec (motive := fun _ => Option (Tr AV × Heap)) none (fun v G => putT T (o.dst.map keyOf) v fun T => some (T, G)) (fun fn args => RC.rec (motive := fun _ => Option (Tr AV × Heap)) none (fun v G => putT T (o.dst.map keyOf) v fun T => some (T, G)) (E fn args H)) (g T H)) (putT T (o.dst.map keyOf) (.tup []) fun T => some (T, H)) := rfl
  rw [hrw] at h
  rcases gdC_sound hgd (ht.at _) (none : Option (Tr AV × Heap)) (R1.rec (motive := fun _ => Option (Tr AV × Heap)) none (fun v G => putT T (o.dst.map keyOf) v fun T => some (T, G)) (fun fn args => RC.rec (motive := fun _ => Option (Tr AV × Heap)) none (fun v G => putT T (o.dst.map keyOf) v fun T => some (T, G)) (E fn args H)) (g T H)) (putT T (o.dst.map keyOf) (.tup []) fun T => some (T, H)) with e | ⟨e, hwant⟩ | ⟨e, hwant⟩ <;> rw [e] at h
  · cases h
  · have hran := cop_sound (a := a) (T := T) hw hg (ht.at _)
    cases hr : g T H with
    | fail => rw [hr] at h; cases h
    | val v G =>
      rw [hr] at hran h
      obtain ⟨T1, hp, e1⟩ := putT_sel T (o.dst.map keyOf) v
      have h : putT T (o.dst.map keyOf) v (fun T => some (T, G)) = some (T', H') := h
      rw [e1] at h
      cases h
      unfold wpOp
      rw [ho]
      simp only [hwant, if_true]
      left
      cases hran with
      | val v G nx v' u ψ hrun hnx hw' he hv =>
        have hfin : At2 P φ H w N T' H' (a.put o.dst v') u := ⟨by cases hod : o.dst <;> simp [Act.put, hdef], ψ, (ht.mono (he.le hw)).put hd hv hp, hw', he⟩
        unfold Oper.wp
        rw [hrun]
        rcases hnx with rfl | ⟨rfl, rfl⟩
        · exact hn _ _ hfin
        · exact hn _ _ hfin
    | call fn args =>
      rw [hr] at hran h
      have h : RC.rec (motive := fun _ => Option (Tr AV × Heap)) none (fun v G => putT T (o.dst.map keyOf) v fun T => some (T, G)) (E fn args H) = some (T', H') := h
      cases hc : E fn args H with
      | fail => rw [hc] at h; cases h
      | ok v G =>
        rw [hc] at h
        obtain ⟨T1, hp, e1⟩ := putT_sel T (o.dst.map keyOf) v
        have h : putT T (o.dst.map keyOf) v (fun T => some (T, G)) = some (T', H') := h
        rw [e1] at h
        cases h
        unfold wpOp
        rw [ho]
        simp only [hwant, if_true]
        left
        cases hran with
        | call fn args args' hrun ha =>
          unfold Oper.wp
          rw [hrun]
          refine (hE _ _ _ _ _ hc φ w args' ha hw).mono fun e u ⟨ψ, v', he1, hv, hw', he⟩ => ?_
          subst he1
          exact hn _ _ ⟨by cases hod : o.dst <;> simp [Act.put, hdef], ψ, (ht.mono (he.le hw)).put hd hv hp, hw', he⟩
  · obtain ⟨T1, hp, e1⟩ := putT_sel T (o.dst.map keyOf) (.tup [])
    rw [e1] at h
    cases h
    unfold wpOp
    rw [ho]
    simp only [hwant]
    exact hn _ _ ⟨by cases hod : o.dst <;> simp [Act.put, hdef], φ, ht.put hd (.tup _ #[] .nil) hp, hw, Ext.refl _ _ _⟩

noncomputable def planL (P : Program) (ops : Array Oper) : List Oper → Option (List Stp)
  | [] => some []
  | o :: l => (stpOf P ops o).bind fun s => (planL P ops l).map fun r => s :: r

theorem steps_sound {E : FuncId → List AV → Heap → RC} (hE : Good P E) {eqv : AV → AV → Bool} {ops : Array Oper} {Q : Exit → Act → World → Prop} {N : Nat} {T' : Tr AV} {H' : Heap} :
    ∀ (l : List Oper) (k : Nat) (sts : List Stp), (∀ j, j < l.length → ops[k + j]? = l[j]?) → planL P ops l = some sts → (∀ o ∈ l, ∀ d, o.dst = some d → d < N) →
      ∀ (φ : Phi) (T : Tr AV) (H : Heap) (a : Act) (w : World), WRel P φ H w → TR P φ N T a.tmps → a.defers = [] →
      stepsR eqv E sts T H = some (T', H') → (∀ a' u, At2 P φ H w N T' H' a' u → Q .normal a' u) → wpOps P ops Q ((List.range l.length).map (k + ·)) a w
  | [], k, sts, _, hp, _, φ, T, H, a, w, hw, ht, hdef, h, hn => by
    simp only [planL, Option.some.injEq] at hp
    subst hp
    cases h
    exact hn a w ⟨hdef, φ, ht, hw, Ext.refl _ _ _⟩
  | o :: l, k, sts, hl, hp, hd, φ, T, H, a, w, hw, ht, hdef, h, hn => by
    simp only [planL] at hp
    obtain ⟨st, hst, hp⟩ := bind_some hp
    obtain ⟨r, hr, rfl⟩ := map_some hp
    have ho : ops[k]? = some o := by have := hl 0 (by simp); simpa using this
    have hrest : ∀ j, j < l.length → ops[k + 1 + j]? = l[j]? := fun j hj => by
      have := hl (j + 1) (by simp; omega)
      rw [show k + (j + 1) = k + 1 + j by omega] at this
      simpa using this
    have hlist : (List.range (o :: l).length).map (k + ·) = k :: (List.range l.length).map (k + 1 + ·) := by
      rw [List.length_cons, List.range_succ_eq_map, List.map_cons, List.map_map]
      congr 1
      apply List.map_congr_left
      intro j _
      simp only [Function.comp]
      omega
    rw [stepsR_cons] at h
    cases hs : stepR eqv E st T H with
    | none => rw [hs] at h; cases h
    | some p =>
      obtain ⟨T1, H1⟩ := p
      rw [hs] at h
      rw [hlist, wpOps_cons]
      refine op_sound hE ho hst (hd o (by simp)) hw ht hdef hs fun a1 w1 h1 => ?_
      obtain ⟨hd1, ψ, ht1, hw1, he1⟩ := h1
      exact steps_sound hE l (k + 1) r hrest hr (fun o ho => hd o (by simp [ho])) ψ T1 H1 a1 w1 hw1 ht1 hd1 h fun a' u h2 => hn a' u (At2.trans he1 h2)

end Go.Ev
