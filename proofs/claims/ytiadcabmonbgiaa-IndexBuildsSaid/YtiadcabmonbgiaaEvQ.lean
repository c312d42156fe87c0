/- Every operation: what the evaluator makes of it, and that the model's run does so. -/
import Derived.Test.YtiadcabmonbgiaaEvP
namespace Go.Ev
variable {P : Program} {φ : Phi} {H : Heap} {w u : World} {T : Tr AV} {a : Act}

abbrev Clo := Tr AV → Heap → R1

def okIface (P : Program) (t : TypeId) : Bool := match P.underlying t with
  | some (.interface _) => false
  | some _ => true
  | none => false
def fieldOf (P : Program) (t : TypeId) (i : Nat) : Option Field := match P.underlying t with
  | some (.struct fs) => fs[i]?
  | _ => none
def elemOfA (P : Program) (t : TypeId) : Option (Nat × TypeId) := match P.underlying t with
  | some (.array n e) => some (n, e)
  | _ => none
def isStr (P : Program) (t : TypeId) : Bool := match P.underlying t with
  | some .string => true
  | _ => false

/-- what an append wants to know of its elements: how many cells, how many bytes -/
def appInfo (P : Program) (e : TypeId) : Option (Nat × Nat) := (P.info? e).bind fun i => i.zero.bind fun z => if i.bytes ≠ 0 ∧ z.cells.size = i.size ∧ 0 < i.size ∧ z.cells.toList.all (fun v => v.oneCell') = true then some (i.size, i.bytes) else none

noncomputable def cBuiltin (P : Program) (b : Builtin) (ts : List TypeId) (xs : List X) : Option Clo := match b, ts, xs with
  | .len, t :: [], x :: [] => some (lenR (lnOf P t) x)
  | .cap, t :: [], x :: [] => (elemOfS P t).map fun _ => capR x
  | .append, s :: t :: [], x :: y :: [] => (elemOfS P s).bind fun e => if isSl P t then (appInfo P e).map fun p => appR p.1 p.2 x y else if isInt P t then (appInfo P e).bind fun p => (zeroL P e).map fun z => apzR p.1 p.2 z x y else none
  | .copy, s :: _ :: [], x :: y :: [] => (elemOfS P s).bind fun e => (szT P e).map fun n => cpyR n x y
  | .min, _, x :: y :: [] => some (mmR false x y)
  | .max, _, x :: y :: [] => some (mmR true x y)
  | _, _, _ => none

noncomputable def cCall (P : Program) (c : Call) : Option Clo := (cXs c.args.toList).bind fun xs => match c.callee with
  | .value (.func f) => some (callS P f xs)
  | .value o => (cX o).map fun x => callX P x xs
  | .invoke o name => (cX o).map fun x => callM P x name xs
  | .builtin b => cBuiltin P b c.argTypes.toList xs

noncomputable def cSlice (P : Program) (t : TypeId) (x : X) (lo hi mx : Option X) : Option Clo := match P.underlying t with
  | some .string => match mx with | none => some (slsR x lo hi) | some _ => none
  | some (.slice e) => (szT P e).map fun n => slvR n x lo hi mx
  | some (.array n e) => match mx with | none => (szT P e).map fun s => slaR n s x lo hi | some _ => none
  | _ => none

noncomputable def cop (P : Program) (o : Oper) : Option Clo := match o.op with
  | .move x => (cX x).map mvR
  | .assign x => (cX x).map mvR
  | .pick c x y => (cX c).bind fun c => (cX x).bind fun x => (cX y).map fun y => pickR c x y
  | .alloc t => (zeroL P t).map fun l => fun _ H => newC (isArr1 P t) l H
  | .box t x => (cX x).map fun x => boxR (isArr1 P t) x
  | .build t ps => (zeroL P t).bind fun z => (placeOf P t).bind fun pl => (cParts pl ps.toList).map fun l => buildR z l
  | .buildSlice t len ps => (elemOfS P t).bind fun e => (zeroL P e).bind fun z => (szT P e).bind fun n => if z.length = n ∧ 0 < n ∧ len * n ≤ 16777216 then (cPairs ps.toList).map fun l => bslR n len z l else none
  | .load t x => (cX x).bind fun x => (aggT P t).bind fun b => (szT P t).map fun n => ldR b n x
  | .store t x y => (cX x).bind fun x => (cX y).bind fun y => (szT P t).map fun n => stR n x y
  | .nilCheck x => (cX x).map nilR
  | .binOp op t x y _ => (cX x).bind fun x' => (cX y).map fun y' => binR P (ekOf P t) (plainK P t) (isK x || isK y) op x' y'
  | .unOp op _ x => (cX x).map fun x => unR op x
  | .convert s d x => (cX x).map fun x => convR (cvOf P s d) x
  | .makeInterface t x => if okIface P t then (cX x).map fun x => mkiR t x else none
  | .slice t x lo hi mx => (cX x).bind fun x => (cXo lo).bind fun lo => (cXo hi).bind fun hi => (cXo mx).bind fun mx => cSlice P t x lo hi mx
  | .fieldAddr t x i => (fieldOf P t i).bind fun f => (szT P f.type).bind fun n => if n ≠ 0 then (cX x).map fun x => faR f.offset x else none
  | .field t x i => (fieldOf P t i).bind fun f => (aggT P f.type).bind fun b => (szT P f.type).bind fun n => (cX x).map fun x => fldR b n f.offset x
  | .indexAddr t x i => (cX x).bind fun x => (cX i).bind fun i => match P.underlying t with
    | some (.slice e) => (szT P e).map fun n => iaS n x i
    | some (.array len e) => (szT P e).map fun n => iaA len n x i
    | _ => none
  | .index t x i => (cX x).bind fun x => (cX i).bind fun i => match P.underlying t with
    | some .string => some (ixR true false 0 0 x i)
    | some (.array len e) => (aggT P e).bind fun b => (szT P e).map fun n => ixR false b len n x i
    | _ => none
  | .extract x i => (cX x).map fun x => extR x i
  | .call c => cCall P c
  | _ => none

theorem bind_some {α β : Type} {x : Option α} {f : α → Option β} {b : β} (h : x.bind f = some b) : ∃ y, x = some y ∧ f y = some b := by
  cases x with
  | none => cases h
  | some y => exact ⟨y, rfl, h⟩
theorem map_some {α β : Type} {x : Option α} {f : α → β} {b : β} (h : x.map f = some b) : ∃ y, x = some y ∧ f y = b := by
  cases x with
  | none => cases h
  | some y => cases h; exact ⟨y, rfl, rfl⟩

def Ran' (P : Program) (φ : Phi) (H : Heap) (w : World) (s : Sem Next) (r : R1) : Prop := Ran P φ H w s r

theorem invoke_builtin (b : Builtin) (c : Call) (hc : c.callee = .builtin b) (ty : TypeId) (ρ : Operand → Value) :
    ∃ k, (do let d ← resolve ρ c ty; invoke d.target d.args : Sem Next) = builtin b c.argTypes ty k (c.args.map ρ) := by
  unfold resolve
  simp only [hc, pure_bind]
  exact ⟨_, rfl⟩

theorem cBuiltin_sound (hw : WRel P φ H w) {b : Builtin} {c : Call} {xs : List X} {g : Clo} (hx : cXs c.args.toList = some xs) (ht : TRelAt P φ T a.tmps (· ∈ tmpsOf c.args.toList)) (h : cBuiltin P b c.argTypes.toList xs = some g) (ty : TypeId) (k : Array Bool) :
    Ran P φ H w (builtin b c.argTypes ty k (c.args.map a.eval)) (g T H) := by
  have one : ∀ {x : X}, xs = [x] → ∃ o, c.args = #[o] ∧ cX o = some x := by
    intro x e
    subst e
    cases hl : c.args.toList with
    | nil => rw [hl] at hx; simp [cXs] at hx
    | cons o l =>
      rw [hl] at hx
      simp only [cXs] at hx
      obtain ⟨y, h1, h2⟩ := bind_some hx
      obtain ⟨r, h3, h4⟩ := map_some h2
      simp only [List.cons.injEq] at h4
      obtain ⟨rfl, rfl⟩ := h4
      cases l with
      | nil => exact ⟨o, by rw [← Array.toArray_toList (xs := c.args), hl], h1⟩
      | cons o2 l => simp only [cXs] at h3; obtain ⟨_, _, h5⟩ := bind_some h3; obtain ⟨_, _, h6⟩ := map_some h5; cases h6
  have two : ∀ {x y : X}, xs = [x, y] → ∃ o p, c.args = #[o, p] ∧ cX o = some x ∧ cX p = some y := by
    intro x y e
    subst e
    cases hl : c.args.toList with
    | nil => rw [hl] at hx; simp [cXs] at hx
    | cons o l =>
      rw [hl] at hx
      simp only [cXs] at hx
      obtain ⟨z, h1, h2⟩ := bind_some hx
      obtain ⟨r, h3, h4⟩ := map_some h2
      simp only [List.cons.injEq] at h4
      obtain ⟨rfl, rfl⟩ := h4
      cases l with
      | nil => simp [cXs] at h3
      | cons p l =>
        simp only [cXs] at h3
        obtain ⟨z, h5, h6⟩ := bind_some h3
        obtain ⟨r, h7, h8⟩ := map_some h6
        simp only [List.cons.injEq] at h8
        obtain ⟨rfl, rfl⟩ := h8
        cases l with
        | nil => exact ⟨o, p, by rw [← Array.toArray_toList (xs := c.args), hl], h1, h5⟩
        | cons q l => simp only [cXs] at h7; obtain ⟨_, _, h9⟩ := bind_some h7; obtain ⟨_, _, h10⟩ := map_some h9; cases h10
  unfold cBuiltin at h
  split at h
  · rename_i t x hts
    cases h
    obtain ⟨o, ha, ho⟩ := one rfl
    have hat : c.argTypes = #[t] := by rw [← Array.toArray_toList (xs := c.argTypes), hts]
    rw [ha] at ht ⊢
    rw [hat, show Array.map a.eval #[o] = #[a.eval o] from by simp]
    exact (len_sound hw ho ht).up
  · rename_i t x hts
    obtain ⟨e, he, rfl⟩ := map_some h
    obtain ⟨o, ha, ho⟩ := one rfl
    have hat : c.argTypes = #[t] := by rw [← Array.toArray_toList (xs := c.argTypes), hts]
    rw [ha] at ht ⊢
    rw [hat, show Array.map a.eval #[o] = #[a.eval o] from by simp]
    have hu : P.underlying t = some (.slice e) := by unfold elemOfS at he; split at he <;> cases he; assumption
    exact (cap_sound hw hu ho ht).up
  · rename_i s t x y hts
    obtain ⟨e, he, h⟩ := bind_some h
    split at h
    case isFalse =>
      split at h
      case isFalse => cases h
      rename_i hin
      obtain ⟨p, hp, h⟩ := bind_some h
      obtain ⟨zl, hzl, rfl⟩ := map_some h
      obtain ⟨o, q, ha, ho, hq⟩ := two rfl
      have hat : c.argTypes = #[s, t] := by rw [← Array.toArray_toList (xs := c.argTypes), hts]
      rw [ha] at ht ⊢
      rw [hat, show Array.map a.eval #[o, q] = #[a.eval o, a.eval q] from by simp]
      have hu : P.underlying s = some (.slice e) := by unfold elemOfS at he; split at he <;> cases he; assumption
      unfold appInfo at hp
      obtain ⟨i, hi, hp⟩ := bind_some hp
      obtain ⟨z, hz, hp⟩ := bind_some hp
      split at hp
      case isFalse => cases hp
      rename_i hc
      cases hp
      have hzl' : ofScalars z.cells.toList = some zl := by
        unfold zeroL at hzl
        simpa [hi, hz] using hzl
      exact apz_sound hw hu hin hi hz hc.1 hc.2.1 (List.all_eq_true.1 hc.2.2.2) hc.2.2.1 hzl' ho hq ht
    rename_i hsl
    obtain ⟨p, hp, rfl⟩ := map_some h
    obtain ⟨o, q, ha, ho, hq⟩ := two rfl
    have hat : c.argTypes = #[s, t] := by rw [← Array.toArray_toList (xs := c.argTypes), hts]
    rw [ha] at ht ⊢
    rw [hat, show Array.map a.eval #[o, q] = #[a.eval o, a.eval q] from by simp]
    have hu : P.underlying s = some (.slice e) := by unfold elemOfS at he; split at he <;> cases he; assumption
    unfold appInfo at hp
    obtain ⟨i, hi, hp⟩ := bind_some hp
    obtain ⟨z, hz, hp⟩ := bind_some hp
    split at hp
    case isFalse => cases hp
    rename_i hc
    cases hp
    exact app_sound hw hu hsl hi hz hc.1 hc.2.1 (List.all_eq_true.1 hc.2.2.2) hc.2.2.1 ho hq ht
  · rename_i s s' x y hts
    obtain ⟨e, he, h⟩ := bind_some h
    obtain ⟨n, hn, rfl⟩ := map_some h
    obtain ⟨o, q, ha, ho, hq⟩ := two rfl
    have hat : c.argTypes = #[s, s'] := by rw [← Array.toArray_toList (xs := c.argTypes), hts]
    rw [ha] at ht ⊢
    rw [hat, show Array.map a.eval #[o, q] = #[a.eval o, a.eval q] from by simp]
    have hu : P.underlying s = some (.slice e) := by unfold elemOfS at he; split at he <;> cases he; assumption
    exact cpy_sound hw hu hn ho hq ht
  · cases h
    obtain ⟨o, q, ha, ho, hq⟩ := two rfl
    rw [ha] at ht ⊢
    rw [show Array.map a.eval #[o, q] = #[a.eval o, a.eval q] from by simp]
    exact (mm_sound hw false ho hq ht _ rfl).up
  · cases h
    obtain ⟨o, q, ha, ho, hq⟩ := two rfl
    rw [ha] at ht ⊢
    rw [show Array.map a.eval #[o, q] = #[a.eval o, a.eval q] from by simp]
    exact (mm_sound hw true ho hq ht _ rfl).up
  · cases h

theorem cCall_sound (hw : WRel P φ H w) {c : Call} {g : Clo} (h : cCall P c = some g) (ht : TRelAt P φ T a.tmps (· ∈ tmpsOf c.operands.toList)) (ty : TypeId) :
    Ran P φ H w (do let d ← resolve a.eval c ty; invoke d.target d.args) (g T H) := by
  unfold cCall at h
  obtain ⟨xs, hxs, h⟩ := bind_some h
  have hsub : TRelAt P φ T a.tmps (· ∈ tmpsOf c.args.toList) := ht.sub fun t h => by
    simp only [tmpsOf, List.mem_filterMap, Call.operands, Array.toList_append, List.mem_append] at h ⊢
    obtain ⟨y, h1, h2⟩ := h
    exact ⟨y, .inr h1, h2⟩
  split at h
  · rename_i f hc
    cases h
    exact callS_sound hw hc hxs hsub ty
  · rename_i o hno hc
    obtain ⟨x, hx, rfl⟩ := map_some h
    refine callX_sound hw hc hx hxs (ht.sub fun t h => ?_) ty
    simp only [tmpsOf, List.mem_filterMap, Call.operands, hc, Array.toList_append, List.mem_append] at h ⊢
    obtain ⟨y, h1, h2⟩ := h
    refine ⟨y, ?_, h2⟩
    simpa using h1
  · rename_i o name hc
    obtain ⟨x, hx, rfl⟩ := map_some h
    refine callM_sound hw hc hx hxs (ht.sub fun t h => ?_) ty
    simp only [tmpsOf, List.mem_filterMap, Call.operands, hc, Array.toList_append, List.mem_append] at h ⊢
    obtain ⟨y, h1, h2⟩ := h
    refine ⟨y, ?_, h2⟩
    simpa using h1
  · rename_i b hc
    obtain ⟨k, hk⟩ := invoke_builtin b c hc ty a.eval
    rw [hk]
    exact cBuiltin_sound hw hxs hsub h ty k

theorem fieldOf_some {t : TypeId} {i : Nat} {f : Field} (h : fieldOf P t i = some f) : ∃ fs, P.underlying t = some (.struct fs) ∧ fs[i]? = some f := by
  unfold fieldOf at h
  split at h
  · exact ⟨_, by assumption, h⟩
  · cases h

theorem cop_sound (hw : WRel P φ H w) {o : Oper} {g : Clo} (h : cop P o = some g) (ht : TRelAt P φ T a.tmps (· ∈ tmpsOf o.op.operands.toList)) : Ran P φ H w (execOp a.eval o) (g T H) := by
  obtain ⟨dst, op, type, pos, after, guard⟩ := o
  unfold cop at h
  cases op <;> dsimp only at h <;> try (cases h; done)
  case move x => obtain ⟨x, hx, rfl⟩ := map_some h; exact (mv_sound hw hx ht _ rfl).up
  case assign x => obtain ⟨x, hx, rfl⟩ := map_some h; exact (mv_sound hw hx ht _ rfl).up
  case pick c x y =>
    obtain ⟨c, hc, h⟩ := bind_some h
    obtain ⟨x, hx, h⟩ := bind_some h
    obtain ⟨y, hy, rfl⟩ := map_some h
    exact (pick_sound hw hc hx hy ht).up
  case alloc t => obtain ⟨l, hl, rfl⟩ := map_some h; exact (alloc_sound hl _).up hw
  case box t x => obtain ⟨x, hx, rfl⟩ := map_some h; exact (box_sound _ hx ht).up hw
  case build t ps =>
    obtain ⟨z, hz, h⟩ := bind_some h
    obtain ⟨pl, hpl, h⟩ := bind_some h
    obtain ⟨l, hl, rfl⟩ := map_some h
    exact build_sound hw hz hpl hl (by simpa [Op.operands, opsOf] using ht)
  case buildSlice t len ps =>
    obtain ⟨e, he, h⟩ := bind_some h
    obtain ⟨z, hz, h⟩ := bind_some h
    obtain ⟨n, hn, h⟩ := bind_some h
    split at h
    case isFalse => cases h
    rename_i hc
    obtain ⟨l, hl, rfl⟩ := map_some h
    have hu : P.underlying t = some (.slice e) := by unfold elemOfS at he; split at he <;> cases he; assumption
    exact (bsl_sound w hu hz hn hc.1 hc.2.1 len hc.2.2 hl (by simpa [Op.operands, opsOf] using ht)).up hw
  case load t x =>
    obtain ⟨x, hx, h⟩ := bind_some h
    obtain ⟨b, hb, h⟩ := bind_some h
    obtain ⟨n, hn, rfl⟩ := map_some h
    exact (ld_sound hw hb hn hx ht).up
  case store t x y =>
    obtain ⟨x, hx, h⟩ := bind_some h
    obtain ⟨y, hy, h⟩ := bind_some h
    obtain ⟨n, hn, rfl⟩ := map_some h
    exact st_sound hw hn hx hy ht
  case nilCheck x => obtain ⟨x, hx, rfl⟩ := map_some h; exact (nil_sound hw hx ht _ rfl).up
  case binOp op t x y s =>
    obtain ⟨x, hx, h⟩ := bind_some h
    obtain ⟨y, hy, rfl⟩ := map_some h
    exact (bin_sound hw hx hy ht op _ rfl).up
  case unOp op t x => obtain ⟨x, hx, rfl⟩ := map_some h; exact (un_sound hw hx ht op).up
  case convert s d x => obtain ⟨x, hx, rfl⟩ := map_some h; exact conv_sound hw hx ht
  case makeInterface t x =>
    split at h
    case isFalse => cases h
    rename_i hok
    obtain ⟨x, hx, rfl⟩ := map_some h
    unfold okIface at hok
    split at hok
    · cases hok
    · rename_i d hne hu; exact (mki_sound hw hu (fun m e => hne m e) hx ht).up
    · cases hok
  case slice t x lo hi mx =>
    obtain ⟨x, hx, h⟩ := bind_some h
    obtain ⟨lo', hlo, h⟩ := bind_some h
    obtain ⟨hi', hhi, h⟩ := bind_some h
    obtain ⟨mx', hmx, h⟩ := bind_some h
    unfold cSlice at h
    split at h
    · rename_i hu
      split at h
      · cases h
        have : mx = none := by cases mx with | none => rfl | some m => simp only [cXo] at hmx; obtain ⟨_, _, e⟩ := map_some hmx; cases e
        subst this
        exact (sls_sound hw hu hx hlo hhi (ht.sub fun t h => by simp only [tmpsOf, List.mem_filterMap, Op.operands] at h ⊢; simpa using h)).up
      · cases h
    · rename_i e hu
      obtain ⟨n, hn, rfl⟩ := map_some h
      exact (slv_sound hw hu hn hx hlo hhi hmx (ht.sub fun t h => by simp only [tmpsOf, List.mem_filterMap, Op.operands] at h ⊢; simpa using h)).up
    · rename_i n e hu
      split at h
      · obtain ⟨s, hs, rfl⟩ := map_some h
        have : mx = none := by cases mx with | none => rfl | some m => simp only [cXo] at hmx; obtain ⟨_, _, e⟩ := map_some hmx; cases e
        subst this
        exact (sla_sound hw hu hs hx hlo hhi (ht.sub fun t h => by simp only [tmpsOf, List.mem_filterMap, Op.operands] at h ⊢; simpa using h)).up
      · cases h
    · cases h
  case fieldAddr t x i =>
    obtain ⟨f, hf, h⟩ := bind_some h
    obtain ⟨n, hn, h⟩ := bind_some h
    split at h
    case isFalse => cases h
    rename_i h0
    obtain ⟨x, hx, rfl⟩ := map_some h
    obtain ⟨fs, hu, hi⟩ := fieldOf_some hf
    exact (fa_sound hw hu hi hn h0 hx ht).up
  case field t x i =>
    obtain ⟨f, hf, h⟩ := bind_some h
    obtain ⟨b, hb, h⟩ := bind_some h
    obtain ⟨n, hn, h⟩ := bind_some h
    obtain ⟨x, hx, rfl⟩ := map_some h
    obtain ⟨fs, hu, hi⟩ := fieldOf_some hf
    exact (fld_sound hw hu hi hb hn hx ht).up
  case indexAddr t x i =>
    obtain ⟨x, hx, h⟩ := bind_some h
    obtain ⟨i, hi, h⟩ := bind_some h
    split at h
    · rename_i e hu
      obtain ⟨n, hn, rfl⟩ := map_some h
      exact (iaS_sound hw hu hn hx hi ht).up
    · rename_i len e hu
      obtain ⟨n, hn, rfl⟩ := map_some h
      exact (iaA_sound hw hu hn hx hi ht).up
    · cases h
  case index t x i =>
    obtain ⟨x, hx, h⟩ := bind_some h
    obtain ⟨i, hi, h⟩ := bind_some h
    split at h
    · rename_i hu
      cases h
      exact (ixS_sound hw hu hx hi ht).up
    · rename_i len e hu
      obtain ⟨b, hb, h⟩ := bind_some h
      obtain ⟨n, hn, rfl⟩ := map_some h
      exact (ixA_sound hw hu hb hn hx hi ht).up
    · cases h
  case extract x i => obtain ⟨x, hx, rfl⟩ := map_some h; exact (ext_sound hw hx ht i).up
  case call c => exact cCall_sound hw h ht _


/-! ### Operations that make a block, and do nothing else -/
def allocOp : Op → Bool
  | .alloc _ | .box _ _ | .buildSlice _ _ _ => true
  | _ => false
theorem cop_alloc {o : Oper} {g : Clo} (h : cop P o = some g) (hq : allocOp o.op = true) (ht : TRelAt P φ T a.tmps (· ∈ tmpsOf o.op.operands.toList)) (H : Heap) (w : World) : RanA P φ H w (execOp a.eval o) (g T H) := by
  obtain ⟨dst, op, type, pos, after, guard⟩ := o
  unfold cop at h
  cases op <;> dsimp only at h <;> try (cases hq; done)
  case alloc t => obtain ⟨l, hl, rfl⟩ := map_some h; exact alloc_sound hl _
  case box t x => obtain ⟨x, hx, rfl⟩ := map_some h; exact box_sound _ hx ht
  case buildSlice t len ps =>
    obtain ⟨e, he, h⟩ := bind_some h
    obtain ⟨z, hz, h⟩ := bind_some h
    obtain ⟨n, hn, h⟩ := bind_some h
    split at h
    case isFalse => cases h
    rename_i hc
    obtain ⟨l, hl, rfl⟩ := map_some h
    have hu : P.underlying t = some (.slice e) := by unfold elemOfS at he; split at he <;> cases he; assumption
    exact bsl_sound w hu hz hn hc.1 hc.2.1 len hc.2.2 hl (by simpa [Op.operands, opsOf] using ht)

/-! ### Operations that leave memory alone -/
def quietOp : Op → Bool
  | .move _ | .pick _ _ _ | .load _ _ | .nilCheck _ | .binOp _ _ _ _ _ | .unOp _ _ _ | .makeInterface _ _ | .slice _ _ _ _ _ | .fieldAddr _ _ _ | .field _ _ _ | .indexAddr _ _ _ | .index _ _ _ | .extract _ _ => true
  | .call { callee := .builtin .len, .. } => true
  | _ => false

theorem cop_quiet (hw : WRel P φ H w) {o : Oper} {g : Clo} (h : cop P o = some g) (hq : quietOp o.op = true) (ht : TRelAt P φ T a.tmps (· ∈ tmpsOf o.op.operands.toList)) : Ran0 P φ H w (execOp a.eval o) (g T H) := by
  obtain ⟨dst, op, type, pos, after, guard⟩ := o
  unfold cop at h
  cases op <;> dsimp only at h <;> try (cases hq; done)
  case move x => obtain ⟨x, hx, rfl⟩ := map_some h; exact mv_sound hw hx ht _ rfl
  case pick c x y =>
    obtain ⟨c, hc, h⟩ := bind_some h
    obtain ⟨x, hx, h⟩ := bind_some h
    obtain ⟨y, hy, rfl⟩ := map_some h
    exact pick_sound hw hc hx hy ht
  case load t x =>
    obtain ⟨x, hx, h⟩ := bind_some h
    obtain ⟨b, hb, h⟩ := bind_some h
    obtain ⟨n, hn, rfl⟩ := map_some h
    exact ld_sound hw hb hn hx ht
  case nilCheck x => obtain ⟨x, hx, rfl⟩ := map_some h; exact nil_sound hw hx ht _ rfl
  case binOp op t x y s =>
    obtain ⟨x, hx, h⟩ := bind_some h
    obtain ⟨y, hy, rfl⟩ := map_some h
    exact bin_sound hw hx hy ht op _ rfl
  case unOp op t x => obtain ⟨x, hx, rfl⟩ := map_some h; exact un_sound hw hx ht op
  case makeInterface t x =>
    split at h
    case isFalse => cases h
    rename_i hok
    obtain ⟨x, hx, rfl⟩ := map_some h
    unfold okIface at hok
    split at hok
    · cases hok
    · rename_i d hne hu; exact mki_sound hw hu (fun m e => hne m e) hx ht
    · cases hok
  case slice t x lo hi mx =>
    obtain ⟨x, hx, h⟩ := bind_some h
    obtain ⟨lo', hlo, h⟩ := bind_some h
    obtain ⟨hi', hhi, h⟩ := bind_some h
    obtain ⟨mx', hmx, h⟩ := bind_some h
    unfold cSlice at h
    split at h
    · rename_i hu
      split at h
      · cases h
        have : mx = none := by cases mx with | none => rfl | some m => simp only [cXo] at hmx; obtain ⟨_, _, e⟩ := map_some hmx; cases e
        subst this
        exact sls_sound hw hu hx hlo hhi (ht.sub fun t h => by simp only [tmpsOf, List.mem_filterMap, Op.operands] at h ⊢; simpa using h)
      · cases h
    · rename_i e hu
      obtain ⟨n, hn, rfl⟩ := map_some h
      exact slv_sound hw hu hn hx hlo hhi hmx (ht.sub fun t h => by simp only [tmpsOf, List.mem_filterMap, Op.operands] at h ⊢; simpa using h)
    · rename_i n e hu
      split at h
      · obtain ⟨s, hs, rfl⟩ := map_some h
        have : mx = none := by cases mx with | none => rfl | some m => simp only [cXo] at hmx; obtain ⟨_, _, e⟩ := map_some hmx; cases e
        subst this
        exact sla_sound hw hu hs hx hlo hhi (ht.sub fun t h => by simp only [tmpsOf, List.mem_filterMap, Op.operands] at h ⊢; simpa using h)
      · cases h
    · cases h
  case fieldAddr t x i =>
    obtain ⟨f, hf, h⟩ := bind_some h
    obtain ⟨n, hn, h⟩ := bind_some h
    split at h
    case isFalse => cases h
    rename_i h0
    obtain ⟨x, hx, rfl⟩ := map_some h
    obtain ⟨fs, hu, hi⟩ := fieldOf_some hf
    exact fa_sound hw hu hi hn h0 hx ht
  case field t x i =>
    obtain ⟨f, hf, h⟩ := bind_some h
    obtain ⟨b, hb, h⟩ := bind_some h
    obtain ⟨n, hn, h⟩ := bind_some h
    obtain ⟨x, hx, rfl⟩ := map_some h
    obtain ⟨fs, hu, hi⟩ := fieldOf_some hf
    exact fld_sound hw hu hi hb hn hx ht
  case indexAddr t x i =>
    obtain ⟨x, hx, h⟩ := bind_some h
    obtain ⟨i, hi, h⟩ := bind_some h
    split at h
    · rename_i e hu
      obtain ⟨n, hn, rfl⟩ := map_some h
      exact iaS_sound hw hu hn hx hi ht
    · rename_i len e hu
      obtain ⟨n, hn, rfl⟩ := map_some h
      exact iaA_sound hw hu hn hx hi ht
    · cases h
  case index t x i =>
    obtain ⟨x, hx, h⟩ := bind_some h
    obtain ⟨i, hi, h⟩ := bind_some h
    split at h
    · rename_i hu
      cases h
      exact ixS_sound hw hu hx hi ht
    · rename_i len e hu
      obtain ⟨b, hb, h⟩ := bind_some h
      obtain ⟨n, hn, rfl⟩ := map_some h
      exact ixA_sound hw hu hb hn hx hi ht
    · cases h
  case extract x i => obtain ⟨x, hx, rfl⟩ := map_some h; exact ext_sound hw hx ht i
  case call c =>
    obtain ⟨callee, args, ats⟩ := c
    cases callee <;> try (cases hq; done)
    rename_i b
    cases b <;> try (cases hq; done)
    unfold cCall at h
    obtain ⟨xs, hxs, h⟩ := bind_some h
    dsimp only at h hxs
    unfold cBuiltin at h
    split at h
    · cases h
      rename_i t x _ hat
      cases hl : args.toList with
      | nil => rw [hl] at hxs; simp [cXs] at hxs
      | cons o l =>
        rw [hl] at hxs
        simp only [cXs] at hxs
        obtain ⟨y, h1, h2⟩ := bind_some hxs
        obtain ⟨r, h3, h4⟩ := map_some h2
        simp only [List.cons.injEq] at h4
        obtain ⟨rfl, rfl⟩ := h4
        cases l with
        | cons o2 l => simp only [cXs] at h3; obtain ⟨_, _, h5⟩ := bind_some h3; obtain ⟨_, _, h6⟩ := map_some h5; cases h6
        | nil =>
          have ha : args = #[o] := by rw [← Array.toArray_toList (xs := args), hl]
          have hat' : ats = #[t] := by rw [← Array.toArray_toList (xs := ats), hat]
          subst ha hat'
          obtain ⟨k, hk⟩ := invoke_builtin .len { callee := .builtin .len, args := #[o], argTypes := #[t] } rfl type a.eval
          show Ran0 P φ H w (do let d ← resolve a.eval { callee := .builtin .len, args := #[o], argTypes := #[t] } type; invoke d.target d.args) _
          rw [hk]
          show Ran0 P φ H w (builtin .len #[t] type k (Array.map a.eval #[o])) _
          rw [show Array.map a.eval #[o] = #[a.eval o] from by simp]
          exact len_sound hw h1 (by simpa [Op.operands, Call.operands] using ht)
    all_goals first | (cases h; done) | (rename_i e1 e2 e3; cases e1; done) | (rename_i e1 e2; cases e1; done) | (rename_i e1; cases e1; done)
end Go.Ev
