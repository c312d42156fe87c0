/- Operations on memory: a new variable, a load, a store; a pointer looked at. -/
import Derived.Test.YtiadcabmonbgiaaEvF
namespace Go.Ev
variable {P : Program} {φ : Phi} {H : Heap} {w : World} {T : Tr AV} {a : Act}

/-! ### Types -/
def szT (P : Program) (t : TypeId) : Option Nat := (P.info? t).map (·.size)
theorem run_sizeOf' {t : TypeId} {n : Nat} (h : szT P t = some n) (w : World) : (sizeOf t).run P w = .ok n w := by
  unfold szT at h
  cases hi : P.info? t with
  | none => rw [hi] at h; cases h
  | some i => rw [hi] at h; cases h; simp [sizeOf, typeInfo, hi]
def isArr1 (P : Program) (t : TypeId) : Bool := match P.underlying t with
  | some (.array _ e) => szT P e == some 1
  | _ => false
def aggT (P : Program) (t : TypeId) : Option Bool := match P.underlying t with
  | some (.struct _) => some true
  | some (.array _ _) => some true
  | some _ => some false
  | none => none
theorem run_isAgg' {t : TypeId} {b : Bool} (h : aggT P t = some b) (w : World) : (isAgg t).run P w = .ok b w := by
  unfold aggT at h
  split at h <;> cases h <;> simp [isAgg, run_underlying (by assumption)]

/-! ### Rows of a new variable -/
noncomputable def shapeC {β : Type} (one : Bool) (l : List AV) (f : β) (c : Nat → List (List AV) → β) : β :=
  bif' one (c 1 (sing l)) (fN l.length fun n => bif' (Nat.beq n 0) f (c n [l]))
theorem shapeC_eq {β : Type} (one : Bool) (l : List AV) (f : β) (c : Nat → List (List AV) → β) :
    shapeC one l f c = f ∨ ∃ esz rows, shapeC one l f c = c esz rows ∧ 0 < esz ∧ (∀ r ∈ rows, r.length = esz) ∧ rows.flatten = l := by
  unfold shapeC
  cases one
  · rw [bif_false, fN_eq]
    by_cases h : l.length = 0
    · left; simp [h, bif_true]
    · right; exact ⟨l.length, [l], by rw [bif_eq, if_neg (by simpa using h)], by omega, by simp, by simp⟩
  · right; exact ⟨1, sing l, rfl, by omega, by simp [sing_eq], flatten_sing l⟩

/-- what names a new block: a pointer, or a slice of so many -/
def shp (n : Option Nat) (esz : Nat) (k : K) : AV := match n with
  | none => .ptr k 0
  | some n => .slice k 0 n esz true n
def shp' (n : Option Nat) (b : Nat) : Value := match n with
  | none => .pointer (some ⟨b, 0, none⟩)
  | some n => .slice (some ⟨b, 0, none⟩) n n
/-- what a new block is made of: its pieces, and what the model lays -/
structure Lays (P : Program) (φ : Phi) (w : World) (s : Sem Next) (n : Option Nat) (esz : Nat) (rows : List (List AV)) (vs : List Value) (e : TypeId) : Prop where
  pos : 0 < esz
  len : ∀ r ∈ rows, r.length = esz
  rel : VRels P φ rows.flatten vs
  one : ∀ v ∈ vs, v.oneCell' = true
  many : ∀ m, n = some m → m * esz ≤ vs.length
  run : s.run P w = .ok (.value (shp' n w.heap.size)) { w with heap := w.heap.push (.cells vs.toArray e) }
inductive RanA (P : Program) (φ : Phi) (H : Heap) (w : World) (s : Sem Next) : R1 → Prop
  | fail : RanA P φ H w s .fail
  | new (n : Option Nat) (esz : Nat) (rows : List (List AV)) (vs : List Value) (e : TypeId) (h : Lays P φ w s n esz rows vs e) : RanA P φ H w s (.val (shp n esz H.nx) (H.add (.row true esz rows)))
theorem shp_rel {ψ : Phi} {n : Option Nat} {esz : Nat} {k : K} {b l : Nat} (hk : ψ k = some ⟨b, 0, l⟩) (hm : ∀ m, n = some m → m * esz ≤ l) : VRel P ψ (shp n esz k) (shp' n b) := by
  cases n with
  | none => exact .ptr k 0 ⟨b, 0, l⟩ hk
  | some n => exact .slice k 0 n esz true n ⟨b, 0, l⟩ n hk (fun _ => rfl) (Nat.le_refl _) (Nat.le_refl _) (by have := hm n rfl; simp only; omega)
theorem RanA.up (hw : WRel P φ H w) {s : Sem Next} {r : R1} (h : RanA P φ H w s r) : Ran P φ H w s r := by
  cases h with
  | fail => exact .fail
  | new n esz rows vs e h =>
    have := newRow_sound (P := P) hw h.pos h.len (vs := vs) (post := []) h.rel h.one (by simp) e 0 0 (.inl (Nat.le_refl _))
    rw [List.append_nil] at this
    exact .val _ _ _ _ _ _ h.run (.inl rfl) this.1 this.2 (shp_rel (Phi.put_same _ _ _) h.many)

/-- a new variable that holds l -/
noncomputable def newC (one : Bool) (l : List AV) (H : Heap) : R1 :=
  shapeC one l .fail fun esz rows => H.addC (.row true esz rows) fun k G => .val (.ptr k 0) G
theorem newC_sound (one : Bool) {l : List AV} {vs : List Value} (hv : VRels P φ l vs) (h1 : ∀ v ∈ vs, v.oneCell' = true) (e : TypeId) (s : Sem Next)
    (hs : s.run P w = .ok (.value (.pointer (some ⟨w.heap.size, 0, none⟩))) { w with heap := w.heap.push (.cells vs.toArray e) }) : RanA P φ H w s (newC one l H) := by
  unfold newC
  rcases shapeC_eq one l R1.fail (fun esz rows => H.addC (.row true esz rows) fun k G => .val (.ptr k 0) G) with e1 | ⟨esz, rows, e1, hp, hl, hf⟩
  · rw [e1]; exact .fail
  · rw [e1, Heap.addC_eq]
    exact .new none esz rows vs e ⟨hp, hl, by rw [hf]; exact hv, h1, by simp, hs⟩

theorem run_newVar (t : TypeId) (v : Value) (w : World) : (newVar t v).run P w = .ok ⟨w.heap.size, 0, none⟩ { w with heap := w.heap.push (.cells v.cells t) } := by
  simp [newVar, newRow]

def zeroL (P : Program) (t : TypeId) : Option (List AV) := ((P.info? t).bind (·.zero)).bind fun z => ofScalars z.cells.toList
theorem run_zeroValue' {t : TypeId} {l : List AV} (h : zeroL P t = some l) (w : World) : ∃ z, (zeroValue t).run P w = .ok z w ∧ ofScalars z.cells.toList = some l := by
  unfold zeroL at h
  cases hi : P.info? t with
  | none => simp [hi] at h
  | some i =>
    cases hz : i.zero with
    | none => simp [hi, hz] at h
    | some z => simp [hi, hz] at h; exact ⟨z, by simp [zeroValue, typeInfo, hi, hz], h⟩

theorem alloc_sound {t : TypeId} {l : List AV} (hz : zeroL P t = some l) (one : Bool) :
    RanA P φ H w (do return Next.value (← Instr.alloc t true (.tuple #[]))) (newC one l H) := by
  obtain ⟨z, hz1, hz2⟩ := run_zeroValue' hz w
  have hs := ofScalars_sound (P := P) (φ := φ) hz2
  refine newC_sound one hs.1 hs.2 t _ (run_v ?_)
  simp [Instr.alloc, hz1, run_newVar]

/-- the cells of a value -/
noncomputable def cellsC {β : Type} (v : AV) (f : β) (c : List AV → β) : β := asAggC v (bif' (AV.one v) (c [v]) f) c
theorem cellsC_eq {β : Type} {v : AV} {v' : Value} (hv : VRel P φ v v') (f : β) (c : List AV → β) :
    cellsC v f c = f ∨ ∃ l, cellsC v f c = c l ∧ VRels P φ l v'.cells.toList ∧ ∀ x ∈ v'.cells.toList, x.oneCell' = true := by
  by_cases ho : AV.one v = true
  · right
    have hv1 := hv.one
    rw [ho] at hv1
    have hc : v'.cells.toList = [v'] := by cases v' <;> simp_all [Value.cells, Value.oneCell']
    refine ⟨[v], ?_, by rw [hc]; exact .one hv, by rw [hc]; simpa using hv1⟩
    unfold cellsC
    rw [ho]
    cases v <;> first | rfl | (simp [AV.one] at ho)
  · cases hv <;> first | (simp [AV.one] at ho; done) | skip
    · rename_i l c' h h1; exact .inr ⟨l, rfl, h, h1⟩
    · exact .inl rfl

noncomputable def boxR (one : Bool) (x : X) (T : Tr AV) (H : Heap) : R1 := withX T x .fail fun v => cellsC v .fail fun l => newC one l H
theorem box_sound {t : TypeId} (one : Bool) {o : Operand} {x : X} (hx : cX o = some x) (ht : TRelAt P φ T a.tmps (· ∈ tmpsOf [o])) :
    RanA P φ H w (do return Next.value (← Instr.box t (a.eval o))) (boxR one x T H) := by
  unfold boxR
  rcases withX_eq T x R1.fail (fun v => cellsC v .fail fun l => newC one l H) with ⟨_, e⟩ | ⟨v, hv, e⟩ <;> rw [e]
  · exact .fail
  have hv' := evX_sound ht hx hv
  rcases cellsC_eq hv' R1.fail (fun l => newC one l H) with e | ⟨l, e, h1, h2⟩ <;> rw [e]
  · exact .fail
  exact newC_sound one h1 h2 t _ (run_v (by simp [Instr.box, run_newVar]))

/-! ### Loads -/
noncomputable def blkC {β : Type} (H : Heap) (k : K) (f : β) (c : Bool → Nat → List (List AV) → β) : β :=
  Option.rec (motive := fun _ => β) f (fun b => Blk.rec (motive := fun _ => β) f c (fun _ => f) b) (H.get k)
theorem blkC_eq {β : Type} (H : Heap) (k : K) (f : β) (c : Bool → Nat → List (List AV) → β) : blkC H k f c = f ∨ ∃ wr esz rows, H.get k = some (.row wr esz rows) ∧ blkC H k f c = c wr esz rows := by
  unfold blkC
  cases h : H.get k with
  | none => exact .inl rfl
  | some b => cases b with
    | dead => exact .inl rfl
    | row wr esz rows => exact .inr ⟨_, _, _, rfl, rfl⟩
    | map _ => exact .inl rfl
/-- n cells at a place -/
noncomputable def loadC {β : Type} (H : Heap) (k : K) (off n : Nat) (f : β) (c : List AV → β) : β := blkC H k f fun _ esz rows => readC f esz rows off n c
noncomputable def hdC {β : Type} (l : List AV) (f : β) (c : AV → β) : β := List.rec (motive := fun _ => β) f (fun x _ _ => c x) l
noncomputable def ldV {β : Type} (agg : Bool) (n : Nat) (k : K) (off : Nat) (H : Heap) (f : β) (c : AV → β) : β :=
  bif' agg (loadC H k off n f fun l => c (.agg l)) (loadC H k off 1 f fun l => hdC l f c)
theorem loadC_sound {β : Type} (hw : WRel P φ H w) {k : K} {at_ : At} (hk : φ k = some at_) (off n : Nat) (f : β) (c : List AV → β) :
    loadC H k off n f c = f ∨ ∃ l vs, loadC H k off n f c = c l ∧ l.length = n ∧ VRels P φ l vs ∧ (∀ v ∈ vs, v.oneCell' = true) ∧ (loadCells ⟨at_.b, at_.o + off, none⟩ n).run P w = .ok vs.toArray w ∧
      ∃ wr esz rows, H.get k = some (.row wr esz rows) ∧ off + n ≤ rows.flatten.length ∧ l = (rows.flatten.drop off).take n := by
  unfold loadC
  rcases blkC_eq H k f (fun _ esz rows => readC f esz rows off n c) with e | ⟨wr, esz, rows, hg, e⟩ <;> rw [e]
  · exact .inl rfl
  have hb := hw.blk k _ at_ hg hk
  rcases readC_eq f esz rows off n c hb.pos hb.len with e1 | ⟨hn, e1⟩ <;> rw [e1]
  · exact .inl rfl
  right
  obtain ⟨vs, h1, h2, h3⟩ := loadCells_sound hw hg hk off n hn
  exact ⟨_, vs, rfl, by rw [List.length_take, List.length_drop]; omega, h2, h3, h1, wr, esz, rows, hg, hn, rfl⟩

/-- a variable read: what is loaded -/
theorem ldV_sound {β : Type} (hw : WRel P φ H w) {k : K} {at_ : At} (hk : φ k = some at_) {t : TypeId} {n : Nat} {b : Bool} (hb : aggT P t = some b) (hn : szT P t = some n) (off : Nat) (f : β) (c : AV → β) :
    ldV b n k off H f c = f ∨ ∃ v v', ldV b n k off H f c = c v ∧ (loadVar t ⟨at_.b, at_.o + off, none⟩).run P w = .ok v' w ∧ VRel P φ v v' := by
  unfold ldV
  cases b
  · rw [bif_false]
    rcases loadC_sound hw hk off 1 f (fun l => hdC l f c) with e | ⟨l, vs, e, hl, h1, h2, _, wr, esz, rows, hg, hlen, hl2⟩ <;> rw [e]
    · exact .inl rfl
    match l, hl with
    | [x], _ =>
      right
      have hx : rows.flatten[off]? = some x := by
        have := congrArg (·[0]?) hl2
        simp only [List.getElem?_take_of_lt (show 0 < 1 by omega), List.getElem?_drop] at this
        simpa using this.symm
      obtain ⟨v', hr, hv, _⟩ := load_sound hw hg hk off x hx
      exact ⟨x, v', rfl, by simp only [loadVar, Sem.run_bind, run_isAgg' hb, Result.andThen_ok]; simpa using hr, hv⟩
  · rw [bif_true]
    rcases loadC_sound hw hk off n f (fun l => c (.agg l)) with e | ⟨l, vs, e, hl, h1, h2, hr, _⟩ <;> rw [e]
    · exact .inl rfl
    right
    exact ⟨.agg l, .agg vs.toArray, rfl, by simp [loadVar, run_isAgg' hb, run_sizeOf' hn, hr], .agg _ _ (by simpa using h1) (by simpa using h2)⟩

noncomputable def ldR (agg : Bool) (n : Nat) (x : X) (T : Tr AV) (H : Heap) : R1 := withX T x .fail fun v => asPtrC v .fail fun k off => ldV agg n k off H .fail fun v => .val v H
theorem ld_sound (hw : WRel P φ H w) {t : TypeId} {n : Nat} {b : Bool} (hb : aggT P t = some b) (hn : szT P t = some n) {o : Operand} {x : X} (hx : cX o = some x) (ht : TRelAt P φ T a.tmps (· ∈ tmpsOf [o])) :
    Ran0 P φ H w (do return Next.value (← Instr.loadAt t (a.eval o))) (ldR b n x T H) := by
  unfold ldR
  rcases withX_eq T x R1.fail (fun v => asPtrC v .fail fun k off => ldV b n k off H .fail fun v => .val v H) with ⟨_, e⟩ | ⟨v, hv, e⟩ <;> rw [e]
  · exact .fail
  have hv' := evX_sound ht hx hv
  generalize a.eval o = y at *
  cases hv' <;> try exact .fail
  rename_i k off at_ hk
  show Ran0 P φ H w _ (ldV b n k off H .fail fun v => .val v H)
  rcases ldV_sound hw hk hb hn off R1.fail (fun v => .val v H) with e | ⟨v, v', e, hr, hv⟩ <;> rw [e]
  · exact .fail
  exact .pure hw (run_v (by simp [Instr.loadAt, Instr.sureAddr, hr])) hv

/-! ### Stores -/
noncomputable def isW {β : Type} (wr : Bool) (f c : β) : β := bif' wr c f
noncomputable def stV (n : Nat) (k : K) (off : Nat) (v : AV) (H : Heap) : R1 :=
  cellsC v .fail fun l => bif' (Nat.beq l.length n) (blkC H k .fail fun wr esz rows => bif' wr (writeC .fail esz rows off l fun rows => H.setC k (.row true esz rows) fun H => .val (.tup []) H) .fail) .fail
theorem stV_sound (hw : WRel P φ H w) {k : K} {at_ : At} (hk : φ k = some at_) {t : TypeId} {n : Nat} (hn : szT P t = some n) (off : Nat) {v : AV} {v' : Value} (hv : VRel P φ v v') (s : Sem Next)
    (hs : ∀ u, (storeVar t ⟨at_.b, at_.o + off, none⟩ v').run P w = .ok () u → s.run P w = .ok .skip u) : Ran P φ H w s (stV n k off v H) := by
  unfold stV
  rcases cellsC_eq hv R1.fail (fun l => bif' (Nat.beq l.length n) (blkC H k .fail fun wr esz rows => bif' wr (writeC .fail esz rows off l fun rows => H.setC k (.row true esz rows) fun H => .val (.tup []) H) .fail) .fail) with e | ⟨l, e, h1, h2⟩ <;> rw [e]
  · exact .fail
  by_cases hl : Nat.beq l.length n = true
  case neg => rw [eq_false_of_ne_true hl]; exact .fail
  rw [hl, bif_true]
  rcases blkC_eq H k R1.fail (fun wr esz rows => bif' wr (writeC .fail esz rows off l fun rows => H.setC k (.row true esz rows) fun H => .val (.tup []) H) .fail) with e | ⟨wr, esz, rows, hg, e⟩ <;> rw [e]
  · exact .fail
  cases wr
  · exact .fail
  rw [bif_true]
  have hb := hw.blk k _ at_ hg hk
  rcases writeC_eq R1.fail esz rows off l (fun rows => H.setC k (.row true esz rows) fun H => .val (.tup []) H) hb.pos hb.len with e1 | ⟨rows', e1, hwr⟩ <;> rw [e1]
  · exact .fail
  rw [Heap.setC_eq]
  obtain ⟨u, hr, hw', he⟩ := storeCells_sound hw hg hk h1 h2 hwr
  refine .val _ _ _ undef u φ (hs u ?_) (.inr ⟨rfl, rfl⟩) hw' he (.tup _ _ .nil)
  have hsz : ¬ (v'.cells.size ≠ n) := by have := h1.length; simp at hl this; omega
  simp only [storeVar, Sem.run_bind, run_sizeOf' hn, Result.andThen_ok, if_neg hsz]
  exact hr

noncomputable def stR (n : Nat) (x y : X) (T : Tr AV) (H : Heap) : R1 := withX T x .fail fun p => asPtrC p .fail fun k off => withX T y .fail fun v => stV n k off v H
theorem st_sound (hw : WRel P φ H w) {t : TypeId} {n : Nat} (hn : szT P t = some n) {o1 o2 : Operand} {x y : X} (hx : cX o1 = some x) (hy : cX o2 = some y) (ht : TRelAt P φ T a.tmps (· ∈ tmpsOf [o1, o2])) :
    Ran P φ H w (do Instr.storeAt t (a.eval o1) (a.eval o2); return Next.skip) (stR n x y T H) := by
  unfold stR
  rcases withX_eq T x R1.fail (fun p => asPtrC p .fail fun k off => withX T y .fail fun v => stV n k off v H) with ⟨_, e⟩ | ⟨v, hv, e⟩ <;> rw [e]
  · exact .fail
  have hv' := evX_sound (ht.sub fun t h => by simp only [tmpsOf, List.filterMap_cons, List.filterMap_nil] at h ⊢; split at h <;> simp_all) hx hv
  generalize a.eval o1 = p at *
  cases hv' <;> try exact .fail
  rename_i k off at_ hk
  show Ran P φ H w _ (withX T y .fail fun v => stV n k off v H)
  rcases withX_eq T y R1.fail (fun v => stV n k off v H) with ⟨_, e⟩ | ⟨v, hv, e⟩ <;> rw [e]
  · exact .fail
  have hv' := evX_sound (ht.sub fun t h => by simp only [tmpsOf, List.filterMap_cons, List.filterMap_nil] at h ⊢; (split at h <;> split) <;> simp_all) hy hv
  refine stV_sound hw hk hn off hv' _ fun u hu => run_u ?_
  simp [Instr.storeAt, Instr.sureAddr, hu]

/-! ### A pointer looked at -/
noncomputable def nilR (x : X) (T : Tr AV) (H : Heap) : R1 := withX T x .fail fun v => asPtrC v (asIfaceC v .fail (fun t u => .val (.iface t u) H) .fail) fun k off => .val (.ptr k off) H
theorem nil_sound (hw : WRel P φ H w) {o : Operand} {x : X} (hx : cX o = some x) (ht : TRelAt P φ T a.tmps (· ∈ tmpsOf [o])) (oo : Oper) (ho : oo.op = .nilCheck o) :
    Ran0 P φ H w (execOp a.eval oo) (nilR x T H) := by
  unfold nilR
  rcases withX_eq T x R1.fail (fun v => asPtrC v (asIfaceC v .fail (fun t u => .val (.iface t u) H) .fail) fun k off => .val (.ptr k off) H) with ⟨_, e⟩ | ⟨v, hv, e⟩ <;> rw [e]
  · exact .fail
  have hv' := evX_sound ht hx hv
  unfold execOp
  rw [ho]
  dsimp only
  generalize a.eval o = y at *
  cases hv' <;> try exact .fail
  · rename_i k off at_ hk
    exact .pure hw rfl (.ptr _ _ _ hk)
  · rename_i t u u' h
    exact .pure hw rfl (.iface _ _ _ h)

end Go.Ev
