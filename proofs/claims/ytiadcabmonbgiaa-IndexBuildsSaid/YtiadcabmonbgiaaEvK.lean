/- Structs and slices made; slices cut. -/
import Derived.Test.YtiadcabmonbgiaaEvJ
namespace Go.Ev
variable {P : Program} {φ : Phi} {H : Heap} {w : World} {T : Tr AV} {a : Act}

/-! ### A struct made of parts -/

theorem fold_put (off : Nat) : ∀ (l : List Value) (k : Nat) (cs : Array Value), off + k + l.length ≤ cs.size →
    (l.zipIdx k).foldl (fun cs x => cs.setIfInBounds (off + x.2) x.1) cs = (cs.toList.take (off + k) ++ l ++ cs.toList.drop (off + k + l.length)).toArray
  | [], k, cs, _ => by simp
  | v :: l, k, cs, h => by
    simp only [List.zipIdx_cons, List.foldl_cons]
    rw [fold_put off l (k + 1) _ (by simp at h ⊢; omega)]
    have e := list_seg_step cs.toList (off + k) v l (by simp at h ⊢; omega)
    congr 1
    simpa [Array.toList_setIfInBounds, Nat.add_assoc] using e

theorem fill_cons (place : Nat → Option (Nat × Nat)) (cells : Array Value) (i : Nat) (v : Value) (rest : List (Nat × Value)) (off size : Nat) (hp : place i = some (off, size)) (hs : v.cells.size = size) (hf : off + size ≤ cells.size) :
    Instr.fill place cells ((i, v) :: rest) = Instr.fill place (cells.toList.take off ++ v.cells.toList ++ cells.toList.drop (off + size)).toArray rest := by
  simp only [Instr.fill, hp]
  have h1 : (v.cells.size != size || decide (off + v.cells.size > cells.size)) = false := by simp [hs]; omega
  rw [if_neg (by simpa [hs] using hf)]
  congr 1
  have := fold_put off v.cells.toList 0 cells (by simp [hs]; omega)
  simp only [Nat.add_zero, Array.length_toList, hs] at this
  rw [← this]
  rw [← Array.foldl_toList]
  simp

/-- parts laid into cells: where each lies, how many cells it has -/
noncomputable def fillC {β : Type} (T : Tr AV) (f : β) (parts : List (Nat × Nat × X)) : List AV → (List AV → β) → β :=
  List.rec (motive := fun _ => List AV → (List AV → β) → β) (fun l c => c l)
    (fun p _ ih l c => withX T p.2.2 f fun v => cellsC v f fun r => bif' (Nat.beq r.length p.2.1) (putC f r p.1 l fun l => ih l c) f) parts

noncomputable def cParts (place : Nat → Option (Nat × Nat)) : List (Nat × Operand) → Option (List (Nat × Nat × X))
  | [] => some []
  | (i, o) :: l => (place i).bind fun p => (cX o).bind fun x => (cParts place l).map fun r => (p.1, p.2, x) :: r

def opsOf (l : List (Nat × Operand)) : List Operand := l.map (·.2)

theorem fillC_sound {β : Type} (f : β) (place : Nat → Option (Nat × Nat)) : ∀ (l : List (Nat × Operand)) (ps : List (Nat × Nat × X)) (cells : List AV) (cs : Array Value) (c : List AV → β), cParts place l = some ps → TRelAt P φ T a.tmps (· ∈ tmpsOf (opsOf l)) →
    VRels P φ cells cs.toList → (∀ v ∈ cs.toList, v.oneCell' = true) →
    fillC T f ps cells c = f ∨ ∃ r cr, fillC T f ps cells c = c r ∧ Instr.fill place cs (l.map fun x => (x.1, a.eval x.2)) = some cr ∧ VRels P φ r cr.toList ∧ (∀ v ∈ cr.toList, v.oneCell' = true) ∧ r.length = cells.length
  | [], ps, cells, cs, c, h, _, hv, h1 => by cases h; exact .inr ⟨cells, cs, rfl, rfl, hv, h1, rfl⟩
  | (i, o) :: l, ps, cells, cs, c, h, ht, hv, h1 => by
    simp only [cParts] at h
    cases hp : place i with
    | none => simp [hp] at h
    | some p =>
      cases hx : cX o with
      | none => simp [hp, hx] at h
      | some x =>
        cases hr : cParts place l with
        | none => simp [hp, hx, hr] at h
        | some ps' =>
          simp [hp, hx, hr] at h
          subst h
          obtain ⟨off, size⟩ := p
          show withX T x f (fun v => cellsC v f fun r => bif' (Nat.beq r.length size) (putC f r off cells fun l => fillC T f ps' l c) f) = f ∨ _
          have hc : ∀ z, withX T x f (fun v => cellsC v f fun r => bif' (Nat.beq r.length size) (putC f r off cells fun l => fillC T f ps' l c) f) = z → fillC T f ((off, size, x) :: ps') cells c = z := fun z h => h
          rcases withX_eq T x f (fun v => cellsC v f fun r => bif' (Nat.beq r.length size) (putC f r off cells fun l => fillC T f ps' l c) f) with ⟨_, e⟩ | ⟨v, hvv, e⟩
          · exact .inl e
          have hv' := evX_sound (P := P) (φ := φ) (a := a) (ht.sub fun t h => by simp only [opsOf, tmpsOf, List.map_cons, List.filterMap_cons, List.filterMap_nil] at h ⊢; split at h <;> simp_all) hx hvv
          rcases cellsC_eq hv' f (fun r => bif' (Nat.beq r.length size) (putC f r off cells fun l => fillC T f ps' l c) f) with e2 | ⟨r, e2, hr1, hr2⟩
          · exact .inl (e.trans e2)
          by_cases hsz : Nat.beq r.length size = true
          case neg => exact .inl (by rw [e, e2, eq_false_of_ne_true hsz]; rfl)
          rw [hsz, bif_true, putC_eq] at e2
          split at e2
          case isFalse => exact .inl (e.trans e2)
          rename_i hfit
          have hszv : (a.eval o).cells.size = size := by
            have := hr1.length
            rw [Nat.beq_eq] at hsz
            simp at this; omega
          have hlen := hv.length
          have hcells : (a.eval o).cells.toList.length = size := by simpa using hszv
          have hrl : r.length = size := by simpa using hsz
          have hval : VRels P φ (cells.take off ++ r ++ cells.drop (off + r.length)) ((cs.toList.take off ++ (a.eval o).cells.toList ++ cs.toList.drop (off + size)).toArray).toList := by
            rw [hrl]; exact ((hv.take off).append hr1).append (hv.drop _)
          have hone : ∀ v ∈ ((cs.toList.take off ++ (a.eval o).cells.toList ++ cs.toList.drop (off + size)).toArray).toList, v.oneCell' = true := by
            intro v hv
            simp only [List.mem_append] at hv
            rcases hv with (hv | hv) | hv
            · exact h1 v (List.mem_of_mem_take hv)
            · exact hr2 v hv
            · exact h1 v (List.mem_of_mem_drop hv)
          have hlen2 : (cells.take off ++ r ++ cells.drop (off + r.length)).length = cells.length := by simp; omega
          rcases fillC_sound f place l ps' _ _ c hr (ht.sub fun t h => by simp only [opsOf, tmpsOf, List.map_cons, List.filterMap_cons] at h ⊢; split <;> simp_all) hval hone with e3 | ⟨q, cq, e3, hq1, hq2, hq3, hq4⟩
          · exact .inl (e.trans (e2.trans e3))
          · refine .inr ⟨q, cq, e.trans (e2.trans e3), ?_, hq2, hq3, hq4.trans hlen2⟩
            rw [List.map_cons, fill_cons place cs i (a.eval o) _ off size hp hszv (by simp at hlen; omega)]
            exact hq1

/-- where the parts of a type lie -/
def placeOf (P : Program) (t : TypeId) : Option (Nat → Option (Nat × Nat)) := match P.underlying t with
  | some (.array _ e) => (szT P e).map fun n => fun i => some (i * n, n)
  | some (.struct fs) => (fs.toList.mapM fun f => (P.info? f.type).map fun i => (f.offset, i.size)).map fun l => fun i => l[i]?
  | _ => none

noncomputable def buildR (zero : List AV) (parts : List (Nat × Nat × X)) (T : Tr AV) (H : Heap) : R1 := fillC T .fail parts zero fun l => .val (.agg l) H
theorem build_sound (hw : WRel P φ H w) {t : TypeId} {zero : List AV} (hz : zeroL P t = some zero) {place : Nat → Option (Nat × Nat)} (hpl : placeOf P t = some place) {parts : Array (Nat × Operand)} {ps : List (Nat × Nat × X)}
    (hps : cParts place parts.toList = some ps) (ht : TRelAt P φ T a.tmps (· ∈ tmpsOf (opsOf parts.toList))) :
    Ran P φ H w (do return Next.value (← Instr.build t (parts.map fun (i, x) => (i, a.eval x)))) (buildR zero ps T H) := by
  unfold buildR
  unfold zeroL at hz
  cases hi : P.info? t with
  | none => simp [hi] at hz
  | some it =>
    cases hzz : it.zero with
    | none => simp [hi, hzz] at hz
    | some z =>
      simp only [hi, hzz, Option.bind_some] at hz
      have hs := ofScalars_sound (P := P) (φ := φ) hz
      rcases fillC_sound (P := P) (φ := φ) (T := T) (a := a) R1.fail place parts.toList ps zero z.cells (fun l => .val (.agg l) H) hps ht hs.1 hs.2 with e | ⟨r, cr, e, h1, h2, h3, _⟩ <;> rw [e]
      · exact .fail
      refine .pure hw (run_v (run_build w t _ cr ?_)) (.agg _ _ h2 h3)
      have hmap : (parts.map fun (i, x) => (i, a.eval x)).toList = parts.toList.map fun x => (x.1, a.eval x.2) := by simp
      rw [hmap]
      unfold placeOf at hpl
      unfold Program.built
      rw [hi]
      split at hpl
      · rename_i n e' hu
        rw [hu]
        cases hie : P.info? e' with
        | none => simp [szT, hie] at hpl
        | some ie =>
          simp only [szT, hie, Option.map_some, Option.some.injEq] at hpl
          subst hpl
          simp only [hzz, hie]
          exact h1
      · rename_i fs hu
        rw [hu]
        cases hp : fs.toList.mapM fun f => (P.info? f.type).map fun i => (f.offset, i.size) with
        | none => simp [hp] at hpl
        | some places =>
          simp only [hp, Option.map_some, Option.some.injEq] at hpl
          subst hpl
          simp only [hzz, hp]
          simpa using h1
      · cases hpl

/-! ### A slice made of parts -/
noncomputable def repL {α : Type} (n : Nat) (x : α) : List α := Nat.rec (motive := fun _ => List α) [] (fun _ ih => x :: ih) n
theorem repL_eq {α : Type} (x : α) : ∀ n, repL n x = List.replicate n x
  | 0 => rfl
  | n + 1 => by show x :: repL n x = _; rw [repL_eq x n]; rfl
noncomputable def fillRows {β : Type} (T : Tr AV) (f : β) (esz : Nat) (parts : List (Nat × X)) : List (List AV) → (List (List AV) → β) → β :=
  List.rec (motive := fun _ => List (List AV) → (List (List AV) → β) → β) (fun l c => c l)
    (fun p _ ih l c => withX T p.2 f fun v => cellsC v f fun r => bif' (Nat.beq r.length esz) (putC f [r] p.1 l fun l => ih l c) f) parts
noncomputable def cPairs : List (Nat × Operand) → Option (List (Nat × X))
  | [] => some []
  | (i, o) :: l => (cX o).bind fun x => (cPairs l).map fun r => (i, x) :: r

theorem fillRows_sound {β : Type} (f : β) (esz : Nat) : ∀ (l : List (Nat × Operand)) (ps : List (Nat × X)) (rows : List (List AV)) (cs : Array Value) (c : List (List AV) → β), cPairs l = some ps → TRelAt P φ T a.tmps (· ∈ tmpsOf (opsOf l)) →
    (∀ r ∈ rows, r.length = esz) → VRels P φ rows.flatten cs.toList → (∀ v ∈ cs.toList, v.oneCell' = true) →
    fillRows T f esz ps rows c = f ∨ ∃ r cr, fillRows T f esz ps rows c = c r ∧ Instr.fill (fun i => some (i * esz, esz)) cs (l.map fun x => (x.1, a.eval x.2)) = some cr ∧ (∀ x ∈ r, x.length = esz) ∧ VRels P φ r.flatten cr.toList ∧ (∀ v ∈ cr.toList, v.oneCell' = true)
  | [], ps, rows, cs, c, h, _, hl, hv, h1 => by cases h; exact .inr ⟨rows, cs, rfl, rfl, hl, hv, h1⟩
  | (i, o) :: l, ps, rows, cs, c, h, ht, hl, hv, h1 => by
    simp only [cPairs] at h
    cases hx : cX o with
    | none => simp [hx] at h
    | some x =>
      cases hr : cPairs l with
      | none => simp [hx, hr] at h
      | some ps' =>
        simp [hx, hr] at h
        subst h
        show withX T x f (fun v => cellsC v f fun r => bif' (Nat.beq r.length esz) (putC f [r] i rows fun l => fillRows T f esz ps' l c) f) = f ∨ _
        rcases withX_eq T x f (fun v => cellsC v f fun r => bif' (Nat.beq r.length esz) (putC f [r] i rows fun l => fillRows T f esz ps' l c) f) with ⟨_, e⟩ | ⟨v, hvv, e⟩
        · exact .inl e
        have hv' := evX_sound (P := P) (φ := φ) (a := a) (ht.sub fun t h => by simp only [opsOf, tmpsOf, List.map_cons, List.filterMap_cons, List.filterMap_nil] at h ⊢; split at h <;> simp_all) hx hvv
        rcases cellsC_eq hv' f (fun r => bif' (Nat.beq r.length esz) (putC f [r] i rows fun l => fillRows T f esz ps' l c) f) with e2 | ⟨r, e2, hr1, hr2⟩
        · exact .inl (e.trans e2)
        by_cases hsz : Nat.beq r.length esz = true
        case neg => exact .inl (by rw [e, e2, eq_false_of_ne_true hsz]; rfl)
        rw [hsz, bif_true, putC_eq] at e2
        split at e2
        case isFalse => exact .inl (e.trans e2)
        rename_i hfit
        have hrl : r.length = esz := by simpa using hsz
        have hszv : (a.eval o).cells.size = esz := by have := hr1.length; simp at this; omega
        have hw := put_rows esz rows [r] i hl (by simpa using hrl) hfit
        have hlen := hv.length
        have hflat := hw.flat
        simp only [List.flatten_cons, List.flatten_nil, List.append_nil] at hflat
        have hfl := hw.fits
        simp only [List.flatten_cons, List.flatten_nil, List.append_nil] at hfl
        have hval : VRels P φ (rows.take i ++ [r] ++ rows.drop (i + [r].length)).flatten ((cs.toList.take (i * esz) ++ (a.eval o).cells.toList ++ cs.toList.drop (i * esz + esz)).toArray).toList := by
          rw [hflat, hrl]; exact ((hv.take _).append hr1).append (hv.drop _)
        have hone : ∀ v ∈ ((cs.toList.take (i * esz) ++ (a.eval o).cells.toList ++ cs.toList.drop (i * esz + esz)).toArray).toList, v.oneCell' = true := by
          intro v hv
          simp only [List.mem_append] at hv
          rcases hv with (hv | hv) | hv
          · exact h1 v (List.mem_of_mem_take hv)
          · exact hr2 v hv
          · exact h1 v (List.mem_of_mem_drop hv)
        rcases fillRows_sound f esz l ps' _ _ c hr (ht.sub fun t h => by simp only [opsOf, tmpsOf, List.map_cons, List.filterMap_cons] at h ⊢; split <;> simp_all) hw.len hval hone with e3 | ⟨q, cq, e3, hq1, hq2, hq3, hq4⟩
        · exact .inl (e.trans (e2.trans e3))
        · refine .inr ⟨q, cq, e.trans (e2.trans e3), ?_, hq2, hq3, hq4⟩
          rw [List.map_cons, fill_cons _ cs i (a.eval o) _ (i * esz) esz rfl hszv (by simp only [Array.length_toList] at hlen; omega)]
          exact hq1

theorem range_rep (z : Array Value) (h : 0 < z.size) : ∀ n, ((Array.range (n * z.size)).map fun i => z[i % z.size]!).toList = (List.replicate n z.toList).flatten
  | 0 => by simp
  | n + 1 => by
    have ih := range_rep z h n
    simp only [Array.toList_map, Array.toList_range] at ih ⊢
    rw [Nat.add_mul, Nat.one_mul, List.range_add, List.map_append, ih, List.replicate_succ', List.flatten_append]
    congr 1
    simp only [List.map_map, List.flatten_cons, List.flatten_nil, List.append_nil]
    apply List.ext_getElem?
    intro i
    by_cases hi : i < z.size
    · simp [hi, Nat.add_mod, Nat.mod_eq_of_lt hi]
    · simp [hi]

theorem foldl_set_size (g : Value × Nat → Nat) : ∀ (q : List (Value × Nat)) (cs : Array Value), (q.foldl (fun cs x => cs.setIfInBounds (g x) x.1) cs).size = cs.size
  | [], _ => rfl
  | x :: q, cs => by rw [List.foldl_cons, foldl_set_size g q]; simp
theorem fill_size (place : Nat → Option (Nat × Nat)) : ∀ (l : List (Nat × Value)) (cs cr : Array Value), Instr.fill place cs l = some cr → cr.size = cs.size
  | [], cs, cr, h => by simp [Instr.fill] at h; rw [h]
  | (i, v) :: l, cs, cr, h => by
    simp only [Instr.fill] at h
    split at h
    · cases h
    · split at h
      · cases h
      · rw [fill_size place l _ _ h, ← Array.foldl_toList]
        exact foldl_set_size (fun x => _ + x.2) _ _

noncomputable def bslR (esz len : Nat) (zero : List AV) (parts : List (Nat × X)) (T : Tr AV) (H : Heap) : R1 :=
  fillRows T .fail esz parts (repL len zero) fun rows => H.addC (.row true esz rows) fun k G => .val (.slice k 0 len esz true len) G
theorem bsl_sound (w : World) {t e : TypeId} (hu : P.underlying t = some (.slice e)) {zero : List AV} (hz : zeroL P e = some zero) {esz : Nat} (hn : szT P e = some esz) (hlz : zero.length = esz) (hp : 0 < esz) (len : Nat) (hlen : len * esz ≤ 16777216)
    {parts : Array (Nat × Operand)} {ps : List (Nat × X)} (hps : cPairs parts.toList = some ps) (ht : TRelAt P φ T a.tmps (· ∈ tmpsOf (opsOf parts.toList))) :
    RanA P φ H w (do return Next.value (← Instr.buildSlice t len (parts.map fun (i, x) => (i, a.eval x)))) (bslR esz len zero ps T H) := by
  unfold bslR
  rw [repL_eq]
  obtain ⟨z, hz1, hz2⟩ := run_zeroValue' hz w
  have hs := ofScalars_sound (P := P) (φ := φ) hz2
  have hzs : z.cells.size = esz := by have := hs.1.length; simp at this; omega
  let cs : Array Value := (Array.range (len * esz)).map fun i => z.cells[i % z.cells.size]!
  have hcs : cs.toList = (List.replicate len z.cells.toList).flatten := by
    have := range_rep z.cells (by omega) len
    rw [hzs] at this
    show ((Array.range (len * esz)).map fun i => z.cells[i % z.cells.size]!).toList = _
    rw [hzs]; exact this
  have hrep : ∀ n, VRels P φ (List.replicate n zero).flatten (List.replicate n z.cells.toList).flatten := by
    intro n
    induction n with
    | zero => exact .nil
    | succ n ih => rw [List.replicate_succ, List.replicate_succ, List.flatten_cons, List.flatten_cons]; exact hs.1.append ih
  rcases fillRows_sound (P := P) (φ := φ) (T := T) (a := a) R1.fail esz parts.toList ps (List.replicate len zero) cs (fun rows => H.addC (.row true esz rows) fun k G => .val (.slice k 0 len esz true len) G) hps ht
    (by intro r hr; rw [List.eq_of_mem_replicate hr]; exact hlz) (by rw [hcs]; exact hrep len)
    (by rw [hcs]; intro v hv; simp only [List.mem_flatten, List.mem_replicate] at hv; obtain ⟨l, ⟨_, rfl⟩, hv⟩ := hv; exact hs.2 v hv) with e' | ⟨rows, cr, e', h1, h2, h3, h4⟩ <;> rw [e']
  · exact .fail
  rw [Heap.addC_eq]
  have hcl : cr.toList.length = len * esz := by
    have h5 := fill_size _ _ _ _ h1
    have : cs.size = len * esz := by simp [cs]
    simp; omega
  have harr : cr.toList.toArray = cr := by simp
  refine .new (some len) esz rows cr.toList e ⟨hp, h2, h3, h4, fun m hm => by cases hm; omega, run_v ?_⟩
  rw [harr]
  · have hmap : (parts.map fun (i, x) => (i, a.eval x)).toList = parts.toList.map fun x => (x.1, a.eval x.2) := by simp
    simp only [Instr.buildSlice, Sem.run_bind, run_underlying hu, Result.andThen_ok, run_sizeOf' hn]
    rw [if_neg (by omega)]
    by_cases h0 : len * esz = 0
    · have hl0 : len = 0 := by
        rcases Nat.mul_eq_zero.1 h0 with h | h
        · exact h
        · omega
      subst hl0
      have hcs0 : cs = #[] := by simp [cs]
      rw [hcs0] at h1
      simp only [h0, if_true, Sem.run_bind, Sem.run_pure, Result.andThen_ok, hmap]
      have hr : Array.map (fun x => (#[] : Array Value)[x % (#[] : Array Value).size]!) (Array.range 0) = #[] := by simp
      simp only [hr, h1, newRow, Sem.run_bind, run_newObj, Sem.run_pure, Result.andThen_ok]
      rfl
    · simp only [h0, if_false, Sem.run_bind, hz1, Sem.run_pure, Result.andThen_ok, hmap]
      have h1' : Instr.fill (fun i => some (i * esz, esz)) (Array.map (fun x => z.cells[x % z.cells.size]!) (Array.range (len * esz))) (parts.toList.map fun x => (x.1, a.eval x.2)) = some cr := h1
      simp only [h1', newRow, Sem.run_bind, run_newObj, Sem.run_pure, Result.andThen_ok]
      rfl

end Go.Ev
