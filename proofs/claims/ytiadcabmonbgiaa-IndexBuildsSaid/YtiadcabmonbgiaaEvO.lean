/- copy; make; lengths; the lesser, the greater; functions as values; type assertions. -/
import Derived.Test.YtiadcabmonbgiaaEvN
namespace Go.Ev
variable {P : Program} {φ : Phi} {H : Heap} {w u : World} {T : Tr AV} {a : Act}

/-! ### copy -/
noncomputable def minN (a b : Nat) : Nat := bif' (Nat.ble a b) a b
theorem minN_eq (a b : Nat) : minN a b = Nat.min a b := by
  unfold minN
  rw [bif_eq]
  split
  · rename_i h; have := Nat.le_of_ble_eq_true h; exact (Nat.min_eq_left this).symm
  · rename_i h
    have : b ≤ a := by
      rcases Nat.le_total a b with h' | h'
      · exact absurd (Nat.ble_eq_true_of_le h') h
      · exact h'
    exact (Nat.min_eq_right this).symm

noncomputable def goI (n : Nat) (H : Heap) : R1 := .val (.int .i64 (.ofNat n)) H
/-- the pieces of a slice, as many as fit -/
noncomputable def cpyR (esz : Nat) (x y : X) (T : Tr AV) (H : Heap) : R1 := withX T x .fail fun v => withX T y .fail fun u =>
  asSliceC v .fail (asSliceC u .fail (goI 0 H) fun _ _ _ _ _ _ => goI 0 H) fun k off len es _ _ => asSliceC u .fail (goI 0 H) fun k2 off2 len2 es2 _ _ => fN (minN len2 len) fun n =>
    bif' (Nat.beq n 0) (goI 0 H) (bif' (Bool.and (Nat.beq es esz) (Nat.beq es2 esz))
      (rowsC H k2 off2 n esz .fail fun _ _ r2 => rowsC H k off n esz .fail fun wr rows _ => bif' wr (putC .fail r2 (off / esz) rows fun rows => H.setC k (.row true esz rows) fun G => goI n G) .fail) .fail)

theorem run_copy {dT sT e ty : TypeId} (hu : P.underlying dT = some (.slice e)) {esz : Nat} (hn : szT P e = some esz) {base : Option Addr} {dl dc sl : Nat} {x : Value} {vs : List Value} (hl : (Builtin.lenOf x).run P w = .ok sl w)
    (hc : (Builtin.firstCells esz (Nat.min sl dl) x).run P w = .ok vs.toArray w) (hst : ∀ b, base = some b → (storeCells b vs).run P w = .ok () u) (hb : base = none → u = w) :
    (Builtin.copy_ #[dT, sT] ty #[.slice base dl dc, x]).run P w = .ok (goInt (Nat.min sl dl)) u := by
  unfold Builtin.copy_
  cases base with
  | none => simp [run_underlying hu, run_sizeOf' hn, hl, hc, hb rfl]
  | some b => simp [run_underlying hu, run_sizeOf' hn, hl, hc, hst b rfl]

theorem goI_rel (n : Nat) : VRel P φ (.int .i64 (.ofNat n)) (goInt (n : Int)) := .int _ _

theorem cpy_sound (hw : WRel P φ H w) {dT sT e ty : TypeId} (hu : P.underlying dT = some (.slice e)) {esz : Nat} (hn : szT P e = some esz) {o1 o2 : Operand} {x y : X} (hx : cX o1 = some x) (hy : cX o2 = some y) (ht : TRelAt P φ T a.tmps (· ∈ tmpsOf [o1, o2])) :
    Ran P φ H w (do return Next.value (← Builtin.copy_ #[dT, sT] ty #[a.eval o1, a.eval o2])) (cpyR esz x y T H) := by
  unfold cpyR
  rcases withX_eq T x R1.fail _ with ⟨_, e'⟩ | ⟨v, hv, e'⟩ <;> rw [e'] <;> clear e'
  · exact .fail
  rcases withX_eq T y R1.fail _ with ⟨_, e'⟩ | ⟨q, hq, e'⟩ <;> rw [e'] <;> clear e'
  · exact .fail
  have hv' := evX_sound (sub2a ht) hx hv
  have hq' := evX_sound (sub2b ht) hy hq
  generalize a.eval o1 = y1 at *
  generalize a.eval o2 = y2 at *
  have zero : ∀ (base : Option Addr) (dl dc sl : Nat) (b2 : Option Addr) (c2 : Nat), Nat.min sl dl = 0 → Ran P φ H w (do return Next.value (← Builtin.copy_ #[dT, sT] ty #[.slice base dl dc, .slice b2 sl c2])) (goI 0 H) := by
    intro base dl dc sl b2 c2 h0
    refine .pure hw (run_v ?_) (goI_rel 0)
    have := run_copy (P := P) (w := w) (u := w) (ty := ty) (sT := sT) (base := base) (dl := dl) (dc := dc) (sl := sl) (x := .slice b2 sl c2) (vs := []) hu hn rfl (by rw [h0]; cases b2 <;> simp [Builtin.firstCells, loadCells, loadCellsFrom]) (fun b _ => rfl) (fun _ => rfl)
    rw [h0] at this
    exact this
  cases hv' <;> try exact .fail
  · -- nil
    cases hq' <;> try exact .fail
    · exact zero _ _ _ _ _ _ rfl
    · exact zero _ _ _ _ _ _ (Nat.min_zero _)
    · exact zero _ _ _ _ _ _ rfl
  · rename_i k off len es ex cap at_ c hk hxc hc hl hlen
    cases hq' <;> try exact .fail
    · exact zero _ _ _ _ _ _ (Nat.zero_min _)
    · rename_i k2 off2 len2 es2 ex2 cap2 at2 c2 hk2 hxc2 hc2 hl2 hlen2
      show Ran P φ H w _ (fN (minN len2 len) fun n =>
        bif' (Nat.beq n 0) (goI 0 H) (bif' (Bool.and (Nat.beq es esz) (Nat.beq es2 esz))
          (rowsC H k2 off2 n esz .fail fun _ _ r2 => rowsC H k off n esz .fail fun wr rows _ => bif' wr (putC .fail r2 (off / esz) rows fun rows => H.setC k (.row true esz rows) fun G => goI n G) .fail) .fail))
      rw [fN_eq, minN_eq]
      generalize hnm : Nat.min len2 len = n
      by_cases h0 : Nat.beq n 0 = true
      · rw [h0, bif_true]; rw [Nat.beq_eq] at h0; subst h0; exact zero _ _ _ _ _ _ hnm
      rw [eq_false_of_ne_true h0, bif_false]
      by_cases hes : Bool.and (Nat.beq es esz) (Nat.beq es2 esz) = true
      case neg => rw [eq_false_of_ne_true hes]; exact .fail
      rw [hes, bif_true]
      rcases rowsC_sound hw hk2 off2 n esz R1.fail (fun _ _ r2 => rowsC H k off n esz .fail fun wr rows _ => bif' wr (putC .fail r2 (off / esz) rows fun rows => H.setC k (.row true esz rows) fun G => goI n G) .fail) with e' | ⟨_, _, r2, v2, e', _, _, _, _, hrl2, hrr2, hv2, ho2, hload2, hvl2, _⟩ <;> rw [e'] <;> clear e'
      · exact .fail
      rcases rowsC_sound hw hk off n esz R1.fail (fun wr rows _ => bif' wr (putC .fail r2 (off / esz) rows fun rows => H.setC k (.row true esz rows) fun G => goI n G) .fail) with e' | ⟨wr, rows, r1, v1, e', hg, _, hoff, hle, _, _, _, _, _, _, _⟩ <;> rw [e'] <;> clear e'
      · exact .fail
      cases wr
      · exact .fail
      rw [bif_true, putC_eq]
      split
      case isFalse => exact .fail
      rename_i hput
      rw [Heap.setC_eq]
      have hrel := hw.blk k _ at_ hg hk
      have hwr := put_rows esz rows r2 (off / esz) hrel.len hrr2 hput
      obtain ⟨u, hst, hw', he⟩ := storeCells_sound hw hg hk hv2 ho2 hwr
      have hdm : off / esz * esz = off := by have := Nat.div_add_mod off esz; rw [hoff, Nat.add_zero, Nat.mul_comm] at this; exact this
      rw [hdm] at hst
      have hrun := run_copy (P := P) (w := w) (u := u) (ty := ty) (sT := sT) (base := some ⟨at_.b, at_.o + off, none⟩) (dl := len) (dc := c) (sl := len2) (x := .slice (some ⟨at2.b, at2.o + off2, none⟩) len2 c2) (vs := v2) hu hn rfl
        (by rw [hnm]; exact hload2 w.drawn) (fun b hb => by cases hb; exact hst) (fun h => by cases h)
      rw [hnm] at hrun
      exact .val _ _ _ _ _ _ (run_v hrun) (.inl rfl) hw' he (goI_rel n)
    · rename_i k2 off2 es2 ex2 at2 x2 hk2
      show Ran P φ H w _ (fN (minN 0 len) fun n => bif' (Nat.beq n 0) (goI 0 H) (bif' (Bool.and (Nat.beq es esz) (Nat.beq es2 esz)) (rowsC H k2 off2 n esz .fail fun _ _ r2 => rowsC H k off n esz .fail fun wr rows _ => bif' wr (putC .fail r2 (off / esz) rows fun rows => H.setC k (.row true esz rows) fun G => goI n G) .fail) .fail))
      rw [fN_eq, minN_eq, show Nat.min 0 len = 0 from Nat.zero_min _]
      exact zero _ _ _ _ _ _ (Nat.zero_min _)
  · rename_i k off es ex at_ x' hk
    cases hq' <;> try exact .fail
    · exact zero _ _ _ _ _ _ rfl
    · rename_i k2 off2 len2 es2 ex2 cap2 at2 c2 hk2 hxc2 hc2 hl2 hlen2
      show Ran P φ H w _ (fN (minN len2 0) fun n => bif' (Nat.beq n 0) (goI 0 H) (bif' (Bool.and (Nat.beq es esz) (Nat.beq es2 esz)) (rowsC H k2 off2 n esz .fail fun _ _ r2 => rowsC H k off n esz .fail fun wr rows _ => bif' wr (putC .fail r2 (off / esz) rows fun rows => H.setC k (.row true esz rows) fun G => goI n G) .fail) .fail))
      rw [fN_eq, minN_eq, show Nat.min len2 0 = 0 from Nat.min_zero _]
      exact zero _ _ _ _ _ _ (Nat.min_zero _)
    · exact zero _ _ _ _ _ _ rfl

/-! ### Lengths -/
inductive LnK where
  | no | str | slice | map | arr (n : Nat)
def lnOf (P : Program) (t : TypeId) : LnK := match P.underlying t with
  | some .string => .str
  | some (.slice _) => .slice
  | some (.map _ _) => .map
  | some (.array n _) => .arr n
  | _ => .no
noncomputable def lenR (lk : LnK) (x : X) (T : Tr AV) (H : Heap) : R1 := withX T x .fail fun v => LnK.rec (motive := fun _ => R1) .fail
  (asStrC v .fail fun l => fN l.length fun n => goI n H) (asSliceC v .fail (goI 0 H) fun _ _ len _ _ _ => goI len H)
  (asMapC v .fail (goI 0 H) fun k => Option.rec (motive := fun _ => R1) .fail (fun b => Blk.rec (motive := fun _ => R1) .fail (fun _ _ _ => .fail) (fun es => fN es.length fun n => goI n H) b) (H.get k)) (fun n => goI n H) lk
theorem ERel.length : ∀ {l : List (AV × AV)} {l' : List MapEntry}, ERel P φ l l' → l.length = l'.length
  | _, _, .nil => rfl
  | _, _, .cons _ _ _ _ _ _ _ h => by simp [ERel.length h]
theorem len_sound (hw : WRel P φ H w) {t ty : TypeId} {o : Operand} {x : X} (hx : cX o = some x) (ht : TRelAt P φ T a.tmps (· ∈ tmpsOf [o])) :
    Ran0 P φ H w (do return Next.value (← Builtin.len_ #[t] ty #[a.eval o])) (lenR (lnOf P t) x T H) := by
  unfold lenR
  rcases withX_eq T x R1.fail _ with ⟨_, e'⟩ | ⟨v, hv, e'⟩ <;> rw [e'] <;> clear e'
  · exact .fail
  have hv' := evX_sound ht hx hv
  generalize a.eval o = y at *
  unfold lnOf
  split <;> try exact .fail
  · rename_i hu
    show Ran0 P φ H w _ (asStrC v .fail fun l => fN l.length fun n => goI n H)
    cases hv' <;> try exact .fail
    rename_i l s h
    show Ran0 P φ H w _ (fN l.length fun n => goI n H)
    rw [fN_eq]
    have : l.length = s.size := by rw [← h, List.length_map]; rfl
    rw [this]
    exact .pure hw (run_v (by simp [Builtin.len_, run_underlying hu])) (goI_rel _)
  · rename_i e hu
    show Ran0 P φ H w _ (asSliceC v .fail (goI 0 H) fun _ _ len _ _ _ => goI len H)
    cases hv' <;> try exact .fail
    · exact .pure hw (run_v (by simp [Builtin.len_, run_underlying hu])) (goI_rel 0)
    · exact .pure hw (run_v (by simp [Builtin.len_, run_underlying hu])) (goI_rel _)
    · exact .pure hw (run_v (by simp [Builtin.len_, run_underlying hu])) (goI_rel 0)
  · rename_i hu
    show Ran0 P φ H w _ (asMapC v .fail (goI 0 H) fun k => Option.rec (motive := fun _ => R1) .fail (fun b => Blk.rec (motive := fun _ => R1) .fail (fun _ _ _ => .fail) (fun es => fN es.length fun n => goI n H) b) (H.get k))
    cases hv' <;> try exact .fail
    · exact .pure hw (run_v (by simp [Builtin.len_, run_underlying hu])) (goI_rel 0)
    · rename_i k at_ hk
      show Ran0 P φ H w _ (Option.rec (motive := fun _ => R1) .fail (fun b => Blk.rec (motive := fun _ => R1) .fail (fun _ _ _ => .fail) (fun es => fN es.length fun n => goI n H) b) (H.get k))
      cases hg : H.get k with
      | none => exact .fail
      | some b =>
        cases b with
        | dead => exact .fail
        | row _ _ _ => exact .fail
        | map es =>
          show Ran0 P φ H w _ (fN es.length fun n => goI n H)
          rw [fN_eq]
          obtain ⟨c, clock, h1, h2⟩ := hw.blk k _ at_ hg hk
          have : es.length = c.size := by rw [h2.length]; simp
          rw [this]
          refine .pure hw (run_v ?_) (goI_rel _)
          simp [Builtin.len_, run_underlying hu, getObj, Sem.run, h1]
  · rename_i n e hu
    show Ran0 P φ H w _ (goI n H)
    refine .pure hw (run_v ?_) (goI_rel n)
    simp only [Builtin.len_, List.getElem?_toArray, List.getElem?_cons_zero, Sem.run_bind, run_underlying hu, Result.andThen_ok, Sem.run_pure]

noncomputable def capR (x : X) (T : Tr AV) (H : Heap) : R1 := withX T x .fail fun v => asSliceC v .fail (goI 0 H) fun _ _ _ _ ex cap => bif' ex (goI cap H) (.val (.geq cap) H)
theorem cap_sound (hw : WRel P φ H w) {t e ty : TypeId} (hu : P.underlying t = some (.slice e)) {o : Operand} {x : X} (hx : cX o = some x) (ht : TRelAt P φ T a.tmps (· ∈ tmpsOf [o])) :
    Ran0 P φ H w (do return Next.value (← Builtin.cap_ #[t] ty #[a.eval o])) (capR x T H) := by
  unfold capR
  rcases withX_eq T x R1.fail _ with ⟨_, e'⟩ | ⟨v, hv, e'⟩ <;> rw [e'] <;> clear e'
  · exact .fail
  have hv' := evX_sound ht hx hv
  generalize a.eval o = y at *
  cases hv' <;> try exact .fail
  · exact .pure hw (run_v (by simp [Builtin.cap_, run_underlying hu])) (goI_rel 0)
  · rename_i k off len es ex cap at_ c hk hxc hc hl hlen
    cases ex
    · refine .pure hw (v' := .int .i64 c) (run_v (by simp [Builtin.cap_, run_underlying hu]; rfl)) (.geq _ _ (by omega))
    · have := hxc rfl; subst this
      exact .pure hw (run_v (by simp [Builtin.cap_, run_underlying hu])) (goI_rel _)
  · rename_i k off es ex at_ x' hk
    cases ex
    · refine .pure hw (v' := .int .i64 0) (run_v (by simp [Builtin.cap_, run_underlying hu]; rfl)) (.geq _ _ (by omega))
    · exact .pure hw (run_v (by simp [Builtin.cap_, run_underlying hu])) (goI_rel 0)

/-! ### The lesser, the greater -/
noncomputable def mm2 {β : Type} (g : Bool) (v u : AV) (f : β) (c : AV → β) : β :=
  asIntC v (asStrC v f fun a => asStrC u f fun b => bif' (bif' g (Bool.not (ltL a b)) (Bool.or (ltL a b) (eqL a b))) (c (.str a)) (c (.str b)))
    fun k m => asIntC u f fun _ n => bif' g (ltI m n fun z => bif' z (c (.int k n)) (c (.int k m))) (ltI n m fun z => bif' z (c (.int k n)) (c (.int k m)))
theorem mm2_sound {β : Type} {v u : AV} {v' u' : Value} (hv : VRel P φ v v') (hu : VRel P φ u u') (g : Bool) (f : β) (c : AV → β) :
    mm2 g v u f c = f ∨ ∃ r r', mm2 g v u f c = c r ∧ (∀ w, (if g = true then Builtin.max2 v' u' else Builtin.min2 v' u').run P w = .ok r' w) ∧ VRel P φ r r' := by
  unfold mm2
  cases hv <;> try exact .inl rfl
  · rename_i k m
    cases hu <;> try exact .inl rfl
    rename_i k' n
    right
    show ∃ r r', bif' g (ltI m n fun z => bif' z (c (.int k n)) (c (.int k m))) (ltI n m fun z => bif' z (c (.int k n)) (c (.int k m))) = c r ∧ _
    cases g
    · rw [bif_false, ltI_eq, bif_eq]
      by_cases h : n < m
      · exact ⟨.int k n, .int k n, by simp [h], fun w => by simp [Builtin.min2, h], .int _ _⟩
      · exact ⟨.int k m, .int k m, by simp [h], fun w => by simp [Builtin.min2, h], .int _ _⟩
    · rw [bif_true, ltI_eq, bif_eq]
      by_cases h : m < n
      · exact ⟨.int k n, .int k n, by simp [h], fun w => by simp [Builtin.max2, h], .int _ _⟩
      · exact ⟨.int k m, .int k m, by simp [h], fun w => by simp [Builtin.max2, h], .int _ _⟩
  · rename_i l s hs
    cases hu <;> try exact .inl rfl
    rename_i l' s' hs'
    right
    show ∃ r r', bif' (bif' g (Bool.not (ltL l l')) (Bool.or (ltL l l') (eqL l l'))) (c (.str l)) (c (.str l')) = c r ∧ _
    have he : eqL l l' = (s.toList == s'.toList) := by rw [← hs, ← hs', eqL_map, ByteArray.toList_eq, ByteArray.toList_eq]
    have hl : ltL l l' = Op.bytesLess s.toList s'.toList := by rw [← hs, ← hs', ltL_eq, ByteArray.toList_eq, ByteArray.toList_eq]
    rw [he, hl]
    cases g
    · rw [bif_false, bif_eq]
      by_cases h : Bool.or (Op.bytesLess s.toList s'.toList) (s.toList == s'.toList) = true
      · exact ⟨.str l, .string s, if_pos h, fun w => by simp only [Bool.false_eq_true, if_false, Builtin.min2, Op.stringOp, Sem.run_bind, Sem.run_pure, Result.andThen_ok, asBool]; rw [if_pos h], .str _ _ hs⟩
      · exact ⟨.str l', .string s', if_neg h, fun w => by simp only [Bool.false_eq_true, if_false, Builtin.min2, Op.stringOp, Sem.run_bind, Sem.run_pure, Result.andThen_ok, asBool]; rw [if_neg h], .str _ _ hs'⟩
    · rw [bif_true, bif_eq]
      by_cases h : (Bool.not (Op.bytesLess s.toList s'.toList)) = true
      · exact ⟨.str l, .string s, if_pos h, fun w => by simp only [if_true, Builtin.max2, Op.stringOp, Sem.run_bind, Sem.run_pure, Result.andThen_ok, asBool]; rw [if_pos h], .str _ _ hs⟩
      · exact ⟨.str l', .string s', if_neg h, fun w => by simp only [if_true, Builtin.max2, Op.stringOp, Sem.run_bind, Sem.run_pure, Result.andThen_ok, asBool]; rw [if_neg h], .str _ _ hs'⟩
noncomputable def mmR (g : Bool) (x y : X) (T : Tr AV) (H : Heap) : R1 := withX T x .fail fun v => withX T y .fail fun u => mm2 g v u .fail fun r => .val r H
theorem mm_sound (hw : WRel P φ H w) (g : Bool) {ts : Array TypeId} {ty : TypeId} {o1 o2 : Operand} {x y : X} (hx : cX o1 = some x) (hy : cX o2 = some y) (ht : TRelAt P φ T a.tmps (· ∈ tmpsOf [o1, o2])) (s : Sem Next)
    (hs : s = if g = true then (do return Next.value (← Builtin.max_ ts ty #[a.eval o1, a.eval o2])) else (do return Next.value (← Builtin.min_ ts ty #[a.eval o1, a.eval o2]))) :
    Ran0 P φ H w s (mmR g x y T H) := by
  unfold mmR
  rcases withX_eq T x R1.fail _ with ⟨_, e'⟩ | ⟨v, hv, e'⟩ <;> rw [e'] <;> clear e'
  · exact .fail
  rcases withX_eq T y R1.fail _ with ⟨_, e'⟩ | ⟨q, hq, e'⟩ <;> rw [e'] <;> clear e'
  · exact .fail
  have hv' := evX_sound (sub2a ht) hx hv
  have hq' := evX_sound (sub2b ht) hy hq
  rcases mm2_sound hv' hq' g R1.fail (fun r => .val r H) with e' | ⟨r, r', e', hr, hrel⟩ <;> rw [e']
  · exact .fail
  refine .pure hw ?_ hrel
  subst hs
  have := hr w
  cases g
  · simp only [Bool.false_eq_true, if_false] at this ⊢
    exact run_v (by simp [Builtin.min_, this])
  · simp only [if_true] at this ⊢
    exact run_v (by simp [Builtin.max_, this])
end Go.Ev
