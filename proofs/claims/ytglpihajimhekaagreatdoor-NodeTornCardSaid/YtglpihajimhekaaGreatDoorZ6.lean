/- part. -/
import Derived.Test.YtglpihajimhekaaGreatDoorZ5
import Derived.ChangeKeysEq
namespace Go.Ev
variable {P : Program} {φ : Phi} {H : Heap} {w : World} {T : Tr AV} {a : Act}
def kindsFs (kt : TypeId → Option (List LK)) : Nat → List Field → Option (List LK)
 | _, [] => some []
 | o, f :: fs => (kt f.type).bind fun ks => if f.offset = o ∧ f.name ≠ "_" then (kindsFs kt (o + ks.length) fs).map fun r => ks ++ r else none
def kindsT (P : Program) : Nat → TypeId → Option (List LK)
 | 0, _ => none
 | d + 1, t => match P.underlying t with
  | some .bool => if szT P t = some 1 then some [.bool] else none
  | some (.int _) => if szT P t = some 1 then some [.int] else none
  | some .string => if szT P t = some 1 then some [.str] else none
  | some (.struct fs) => if P.stoodInHeld t then none else (kindsFs (kindsT P d) 0 fs.toList).bind fun ks => if szT P t = some ks.length then some ks else none
  | _ => none
section
variable {β : Type}
theorem eqCs_nil (y : List AV) (ks : List LK) (f : β) (c : Bool → β) (h : y.length = 0) : eqCs [] y ks f c = c true := by
 cases y with
 | nil => rfl
 | cons _ _ => simp at h
theorem eqCs_cons (v : AV) (x : List AV) (u : AV) (y : List AV) (k : LK) (ks : List LK) (f : β) (c : Bool → β) :
  eqCs (v :: x) (u :: y) (k :: ks) f c = eq1C k v u f fun z => bif' z (eqCs x y ks f c) (c false) := rfl
theorem eqCs_append : ∀ (x1 y1 : List AV) (k1 : List LK) (x2 y2 : List AV) (k2 : List LK) (f : β) (c : Bool → β), x1.length = k1.length → y1.length = k1.length →
  eqCs (x1 ++ x2) (y1 ++ y2) (k1 ++ k2) f c = eqCs x1 y1 k1 f fun z => bif' z (eqCs x2 y2 k2 f c) (c false)
 | [], [], [], _, _, _, _, _, _, _ => rfl
 | v :: x1, u :: y1, k :: k1, x2, y2, k2, f, c, h1, h2 => by
  show eq1C k v u f (fun z => bif' z (eqCs (x1 ++ x2) (y1 ++ y2) (k1 ++ k2) f c) (c false)) = eq1C k v u f (fun z => bif' z (eqCs x1 y1 k1 f fun z => bif' z (eqCs x2 y2 k2 f c) (c false)) (bif' false _ (c false)))
  rw [eqCs_append x1 y1 k1 x2 y2 k2 f c (by simpa using h1) (by simpa using h2)]
  rfl
 | [], _ :: _, [], _, _, _, _, _, _, h => by simp at h
 | _ :: _, _, [], _, _, _, _, _, h, _ => by simp at h
 | [], _, _ :: _, _, _, _, _, _, h, _ => by simp at h
 | _ :: _, [], _ :: _, _, _, _, _, _, _, h => by simp at h
end
def valOf (P : Program) (t : TypeId) (l : List Value) (v : Value) : Prop := match aggT P t with
 | some true => v = .agg l.toArray
 | _ => l = [v]
def EqAt (P : Program) (φ : Phi) (D : Nat) (t : TypeId) (ks : List LK) : Prop :=
 ∀ (β : Type) (xs ys : List AV) (xs' ys' : List Value) (v u : Value) (f : β) (c : Bool → β), VRels P φ xs xs' → VRels P φ ys ys' → xs.length = ks.length → ys.length = ks.length → valOf P t xs' v → valOf P t ys' u →
  eqCs xs ys ks f c = f ∨ ∃ z, eqCs xs ys ks f c = c z ∧ ∀ w, (Op.equalIn D t v u).run P w = .ok z w
theorem eqAt_leaf (D : Nat) (t : TypeId) (ha : aggT P t = some false) : EqAt P φ (D + 1) t [lkOf P t] := by
 intro β xs ys xs' ys' v u f c hx hy lx ly vx vy
 simp only [valOf, ha] at vx vy
 subst vx vy
 cases hx with | cons x _ _ _ hx hr =>
 cases hr
 cases hy with | cons y _ _ _ hy hr =>
 cases hr
 show eq1C (lkOf P t) x y f (fun z => bif' z (c true) (c false)) = f ∨ _
 rcases eq1C_sound hx hy t f (fun z => bif' z (c true) (c false)) with e | ⟨z, e, _, _, hz⟩
 ·exact .inl e
 ·refine .inr ⟨z, ?_, fun w => hz D w⟩
  show eq1C (lkOf P t) x y f (fun z => bif' z (c true) (c false)) = _
  rw [e]; cases z <;> rfl
theorem run_part {t : TypeId} {cs : Array Value} {o n : Nat} {v : Value} {l : List Value} (ha : (aggT P t).isSome) (hs : szT P t = some n) (hl : l = (cs.toList.drop o).take n) (hn : l.length = n) (hv : valOf P t l v) (w : World) :
  (part t cs o).run P w = .ok v w := by
 unfold valOf at hv
 cases hb : aggT P t with
 | none => rw [hb] at ha; cases ha
 | some b =>
  rw [hb] at hv
  cases b
  ·simp only at hv
   simp only [part, Sem.run_bind, run_isAgg' hb, Result.andThen_ok, Bool.false_eq_true, if_false]
   have h1 : n = 1 := by rw [← hn, hv]; rfl
   subst h1
   have : cs[o]? = some v := by
    have h2 := congrArg (·[0]?) hl
    rw [hv] at h2
    simp only [List.getElem?_take_of_lt (show 0 < 1 by omega), List.getElem?_drop] at h2
    simpa using h2.symm
   rw [this]; rfl
  ·simp only at hv
   subst hv
   simp only [part, Sem.run_bind, run_isAgg' hb, Result.andThen_ok, if_true, run_sizeOf' hs, Sem.run_pure]
   congr 2
   apply Array.ext'
   rw [hl]
   simp only [Array.toList_extract, List.extract_eq_take_drop]
   congr 1; omega
theorem eqFields_sound {kt : TypeId → Option (List LK)} {D : Nat} (ih : ∀ t ks, kt t = some ks → EqAt P φ D t ks ∧ szT P t = some ks.length ∧ (aggT P t).isSome ∧ (aggT P t = some false → ks.length = 1)) :
    ∀ (fs : List Field) (o : Nat) (ks : List LK), kindsFs kt o fs = some ks → ∀ (β : Type) (xs ys : List AV) (cx cy : Array Value) (f : β) (c : Bool → β),
      VRels P φ xs (cx.toList.drop o) → VRels P φ ys (cy.toList.drop o) → xs.length = ks.length → ys.length = ks.length →
      eqCs xs ys ks f c = f ∨ ∃ z, eqCs xs ys ks f c = c z ∧ ∀ w, (Op.eqFields D cx cy fs).run P w = .ok z w
  | [], o, ks, hk, β, xs, ys, cx, cy, f, c, hx, hy, lx, ly => by
    simp only [kindsFs, Option.some.injEq] at hk; subst hk
    match xs, lx with
    | [], _ => exact .inr ⟨true, eqCs_nil _ _ _ _ (by simpa using ly), fun w => rfl⟩
  | fd :: fs, o, ks, hk, β, xs, ys, cx, cy, f, c, hx, hy, lx, ly => by
    simp only [kindsFs] at hk
    cases h1 : kt fd.type with
    | none => simp [h1] at hk
    | some k1 =>
      simp only [h1, Option.bind_some] at hk
      split at hk
      case isFalse => cases hk
      rename_i hcond
      obtain ⟨hoff, hname⟩ := hcond
      cases h2 : kindsFs kt (o + k1.length) fs with
      | none => simp [h2] at hk
      | some k2 =>
        simp only [h2, Option.map_some, Option.some.injEq] at hk
        subst hk
        obtain ⟨heq, hsz, hag, hone⟩ := ih _ _ h1
        simp only [List.length_append] at lx ly
        have hx1 := hx.take k1.length
        have hy1 := hy.take k1.length
        have hx2 := hx.drop k1.length
        have hy2 := hy.drop k1.length
        rw [List.drop_drop] at hx2 hy2
        have lx1 : (xs.take k1.length).length = k1.length := by rw [List.length_take]; omega
        have ly1 : (ys.take k1.length).length = k1.length := by rw [List.length_take]; omega
        have lx' := hx1.length
        have ly' := hy1.length
        rw [← List.take_append_drop k1.length xs, ← List.take_append_drop k1.length ys, eqCs_append _ _ _ _ _ _ _ _ lx1 ly1]
        have hval : ∀ l : List Value, l.length = k1.length → ∃ v, valOf P fd.type l v := by
          intro l hl
          unfold valOf
          cases hb : aggT P fd.type with
          | none => rw [hb] at hag; cases hag
          | some b => cases b
                      · have := hone hb
                        match l, hl with
                        | [v], _ => exact ⟨v, rfl⟩
                        | [], hl => simp at hl; omega
                        | _ :: _ :: _, hl => simp at hl; omega
                      · exact ⟨_, rfl⟩
        obtain ⟨v, hv⟩ := hval _ (by rw [← lx', lx1])
        obtain ⟨u, hu⟩ := hval _ (by rw [← ly', ly1])
        have hp1 : ∀ w, (part fd.type cx fd.offset).run P w = .ok v w := fun w => run_part hag hsz (by rw [hoff]) (by rw [← lx', lx1]) hv w
        have hp2 : ∀ w, (part fd.type cy fd.offset).run P w = .ok u w := fun w => run_part hag hsz (by rw [hoff]) (by rw [← ly', ly1]) hu w
        rcases heq β _ _ _ _ v u f (fun z => bif' z (eqCs (xs.drop k1.length) (ys.drop k1.length) k2 f c) (c false)) hx1 hy1 lx1 ly1 hv hu with e | ⟨z, e, hz⟩ <;> rw [e]
        · exact .inl rfl
        cases z
        · refine .inr ⟨false, rfl, fun w => ?_⟩
          simp [Op.eqFields, hname, hp1, hp2, hz]
        · rw [bif_true]
          rcases eqFields_sound ih fs (o + k1.length) k2 h2 β (xs.drop k1.length) (ys.drop k1.length) cx cy f c hx2 hy2 (by rw [List.length_drop]; omega) (by rw [List.length_drop]; omega) with e2 | ⟨z, e2, hz2⟩ <;> rw [e2]
          · exact .inl rfl
          · refine .inr ⟨z, rfl, fun w => ?_⟩
            simp [Op.eqFields, hname, hp1, hp2, hz, hz2]
theorem kindsT_sound : ∀ (d : Nat) (D : Nat), d ≤ D → ∀ (t : TypeId) (ks : List LK), kindsT P d t = some ks → EqAt P φ D t ks ∧ szT P t = some ks.length ∧ (aggT P t).isSome ∧ (aggT P t = some false → ks.length = 1)
 | 0, _, _, _, _, h => by simp [kindsT] at h
 | d + 1, 0, hD, _, _, _ => by omega
 | d + 1, D + 1, hD, t, ks, h => by
  unfold kindsT at h
  split at h
  ·rename_i hu
   split at h <;> cases h
   rename_i hs
   have ha : aggT P t = some false := by simp [aggT, hu]
   have hl : lkOf P t = .bool := by simp [lkOf, hu]
   exact ⟨hl ▸ eqAt_leaf D t ha, hs, by rw [ha]; rfl, fun _ => rfl⟩
  ·rename_i hu
   split at h <;> cases h
   rename_i hs
   have ha : aggT P t = some false := by simp [aggT, hu]
   have hl : lkOf P t = .int := by simp [lkOf, hu]
   exact ⟨hl ▸ eqAt_leaf D t ha, hs, by rw [ha]; rfl, fun _ => rfl⟩
  ·rename_i hu
   split at h <;> cases h
   rename_i hs
   have ha : aggT P t = some false := by simp [aggT, hu]
   have hl : lkOf P t = .str := by simp [lkOf, hu]
   exact ⟨hl ▸ eqAt_leaf D t ha, hs, by rw [ha]; rfl, fun _ => rfl⟩
  ·rename_i fs hu
   split at h
   ·cases h
   rename_i hst
   cases hk : kindsFs (kindsT P d) 0 fs.toList with
   | none => simp [hk] at h
   | some k =>
    simp only [hk, Option.bind_some] at h
    split at h
    case isFalse => cases h
    rename_i hsz
    cases h
    have ha : aggT P t = some true := by simp [aggT, hu]
    refine ⟨?_, hsz, by rw [ha]; rfl, fun h => by rw [ha] at h; cases h⟩
    intro β xs ys xs' ys' v u f c hx hy lx ly vx vy
    simp only [valOf, ha] at vx vy
    subst vx vy
    have hf : P.fieldsOf t = fs := by simp [Program.fieldsOf, hu]
    rcases eqFields_sound (fun t ks h => kindsT_sound d D (by omega) t ks h) fs.toList 0 ks hk β xs ys xs'.toArray ys'.toArray f c (by simpa using hx) (by simpa using hy) lx ly with e | ⟨z, e, hz⟩
    ·exact .inl e
    ·refine .inr ⟨z, e, fun w => ?_⟩
     rw [run_equalIn_struct w D t _ _ (by rw [hf]; exact hu) (by simpa using hst), hf]
     exact hz w
  ·cases h
theorem eqItems_sound {e : TypeId} {k : IntKind} (he : P.underlying e = some (.int k)) (hs : szT P e = some 1) (D : Nat) : ∀ (n j : Nat) (β : Type) (xs ys : List AV) (cx cy : Array Value) (f : β) (c : Bool → β),
  VRels P φ xs (cx.toList.drop j) → VRels P φ ys (cy.toList.drop j) → xs.length = n → ys.length = n →
  eqCs xs ys (List.replicate n .int) f c = f ∨ ∃ z, eqCs xs ys (List.replicate n .int) f c = c z ∧ ∀ w, (Op.eqItems (D + 1) e 1 cx cy (List.range' j n)).run P w = .ok z w
 | 0, j, β, xs, ys, cx, cy, f, c, hx, hy, lx, ly => by
  match xs, lx with
  | [], _ => exact .inr ⟨true, eqCs_nil _ _ _ _ ly, fun w => by simp [Op.eqItems]⟩
 | n + 1, j, β, xs, ys, cx, cy, f, c, hx, hy, lx, ly => by
  have ha : aggT P e = some false := by simp [aggT, he]
  have hl : lkOf P e = .int := by simp [lkOf, he]
  match xs, ys, lx, ly with
  | v :: xs, u :: ys, lx, ly =>
   generalize hcx : cx.toList.drop j = lx' at hx
   generalize hcy : cy.toList.drop j = ly' at hy
   cases hx with | cons _ _ v' xs' hv hx =>
   cases hy with | cons _ _ u' ys' hu hy =>
   have hp1 : ∀ w, (part e cx (j * 1)).run P w = .ok v' w := fun w => run_part (l := [v']) (by rw [ha]; rfl) hs (by rw [Nat.mul_one, hcx]; rfl) rfl (by simp [valOf, ha]) w
   have hp2 : ∀ w, (part e cy (j * 1)).run P w = .ok u' w := fun w => run_part (l := [u']) (by rw [ha]; rfl) hs (by rw [Nat.mul_one, hcy]; rfl) rfl (by simp [valOf, ha]) w
   rw [Nat.mul_one] at hp1 hp2
   have hdx : xs' = cx.toList.drop (j + 1) := by rw [← List.drop_drop, hcx]; rfl
   have hdy : ys' = cy.toList.drop (j + 1) := by rw [← List.drop_drop, hcy]; rfl
   rw [List.replicate_succ, eqCs_cons, List.range'_succ]
   rcases eq1C_sound hv hu e f (fun z => bif' z (eqCs xs ys (List.replicate n .int) f c) (c false)) with h | ⟨z, h, _, _, hz⟩ <;> rw [hl] at h <;> rw [h]
   ·exact .inl rfl
   cases z
   ·refine .inr ⟨false, rfl, fun w => ?_⟩
    simp [Op.eqItems, hp1, hp2, hz]
   ·rw [bif_true]
    rcases eqItems_sound he hs D n (j + 1) β xs ys cx cy f c (hdx ▸ hx) (hdy ▸ hy) (by simpa using lx) (by simpa using ly) with e2 | ⟨z, e2, hz2⟩ <;> rw [e2]
    ·exact .inl rfl
    ·refine .inr ⟨z, rfl, fun w => ?_⟩
     simp [Op.eqItems, hp1, hp2, hz, hz2]
def plainK (P : Program) (t : TypeId) : Option (List LK) := match P.underlying t with
 | some (.struct _) => if P.eqGuardType P.depth t then none else kindsT P 30 t
 | some (.array n e) => if P.eqGuardType P.depth t then none else match P.underlying e with
  | some (.int _) => if szT P e = some 1 then some (List.replicate n .int) else none
  | _ => none
 | _ => none
theorem plainK_sound {t : TypeId} {ks : List LK} (hp : plainK P t = some ks) : P.eqGuardType P.depth t = false ∧ ∀ (β : Type) (l m : List AV) (cs ds : Array Value) (f : β) (c : Bool → β), VRels P φ l cs.toList → VRels P φ m ds.toList → l.length = ks.length → m.length = ks.length →
  eqCs l m ks f c = f ∨ ∃ z, eqCs l m ks f c = c z ∧ ∀ w, (Op.equalIn 10000 t (.agg cs) (.agg ds)).run P w = .ok z w := by
 unfold plainK at hp
 split at hp
 ·rename_i fs hu
  split at hp
  ·cases hp
  rename_i hgd
  have ha : aggT P t = some true := by simp [aggT, hu]
  have hk := (kindsT_sound (P := P) (φ := φ) 30 10000 (by omega) t ks hp).1
  refine ⟨by simpa using hgd, fun β l m cs ds f c h g hl hm => hk β l m _ _ (.agg cs) (.agg ds) f c h g hl hm (by simp [valOf, ha]) (by simp [valOf, ha])⟩
 ·rename_i n e hu
  split at hp
  ·cases hp
  rename_i hgd
  split at hp
  ·rename_i k he
   split at hp
   case isFalse => cases hp
   rename_i hs
   cases hp
   refine ⟨by simpa using hgd, fun β l m cs ds f c h g hl hm => ?_⟩
   cases hi : P.info? e with
   | none => simp [szT, hi] at hs
   | some i =>
    have hc : P.cellsOf e = 1 := by
     simp only [szT, hi, Option.map_some, Option.some.injEq] at hs
     simp [Program.cellsOf, hi, hs]
    rcases eqItems_sound (φ := φ) he hs 9998 n 0 β l m cs ds f c h g (by simpa using hl) (by simpa using hm) with e1 | ⟨z, e1, hz⟩
    ·exact .inl e1
    ·refine .inr ⟨z, e1, fun w => ?_⟩
     rw [run_equalIn_array w 9999 cs ds hu hi, hc, List.range_eq_range']
     exact hz w
  ·cases hp
 ·cases hp
noncomputable def isSh (op : BinOp) : Bool := BinOp.rec (motive := fun _ => Bool) false false false false false false false false true true false false false false false false false op
noncomputable def eqOp {β : Type} (op : BinOp) (f : β) (c : Bool → β) : β := BinOp.rec (motive := fun _ => β) f f f f f f f f f f f (c false) (c true) f f f f op
noncomputable def isGtr (op : BinOp) : Bool := BinOp.rec (motive := fun _ => Bool) false false false false false false false false false false false false false false false true false op
theorem isGtr_eq {op : BinOp} (h : isGtr op = true) : op = .gtr := by cases op <;> first | rfl | cases h
noncomputable def geqB {β : Type} (op : BinOp) (k : IntKind) (a : Int) (u : AV) (f : β) (c : AV → β) : β :=
 asGeqC u f fun n => bif' (isGtr op) (bif' (Nat.beq (kn k) (kn .i64)) (leI a (Int.ofNat n) fun z => bif' z (c (.bool false)) f) f) f
noncomputable def binV {β : Type} (P : Program) (ek : EK) (pk : Option (List LK)) (lit : Bool) (op : BinOp) (v u : AV) (f : β) (c : AV → β) : β :=
 asIntC v
  (asStrC v
   (eqOp op f fun n => asAggC v (eqVC P ek lit v u f fun z => fB (bif' n (Bool.not z) z) fun z => c (.bool z)) fun l => asAggC u f fun m =>
    Option.rec (motive := fun _ => β) f (fun ks => bif' (Bool.and (Nat.beq l.length ks.length) (Nat.beq m.length ks.length)) (eqCs l m ks f fun z => fB (bif' n (Bool.not z) z) fun z => c (.bool z)) f) pk)
   fun a => asStrC u f fun b => strBin op a b f c)
  fun k a => asIntC u (geqB op k a u f c) fun j b => bif' (isSh op) (shBin op k a b f c) (bif' (Nat.beq (kn k) (kn j)) (intBin op k a b f c) f)
theorem binV_sound {t : TypeId} {v u : AV} {v' u' : Value} (hv : VRel P φ v v') (hu : VRel P φ u u') (x y : Operand) (op : BinOp) {β : Type} (f : β) (c : AV → β) (w : World) :
  binV P (ekOf P t) (plainK P t) (isK x || isK y) op v u f c = f ∨ ∃ r r', binV P (ekOf P t) (plainK P t) (isK x || isK y) op v u f c = c r ∧
   (do eqGuard op t x y v' u'; Go.binOp op t v' u' : Sem Value).run P w = .ok r' w ∧ VRel P φ r r' := by
 have hint : ∀ k n k' n', (eqGuard op t x y (.int k n) (.int k' n')).run P w = .ok () w := fun _ _ _ _ => eqGuard_ok _ _ _ _ _ _ _ (fun h => by cases h) (fun _ _ h => by cases h)
 have gen : ∀ (f : β) (c : AV → β), eqOp op f (fun n => eqVC P (ekOf P t) (isK x || isK y) v u f fun z => fB (bif' n (Bool.not z) z) fun z => c (.bool z)) = f ∨ ∃ r r', eqOp op f (fun n => eqVC P (ekOf P t) (isK x || isK y) v u f fun z => fB (bif' n (Bool.not z) z) fun z => c (.bool z)) = c r ∧
   (do eqGuard op t x y v' u'; Go.binOp op t v' u' : Sem Value).run P w = .ok r' w ∧ VRel P φ r r' := by
  intro f c
  cases op <;> try exact .inl rfl
  ·rcases eqVC_sound hv hu x y .eql (isK x || isK y) (fun h => h) f (fun z => fB (bif' false (Bool.not z) z) fun z => c (.bool z)) w with e | ⟨z, e, hg, h1, h2⟩
   ·exact .inl e
   ·exact .inr ⟨.bool z, .bool z, e.trans (fB_eq _ _), by simp [hg, h1], .bool z⟩
  ·rcases eqVC_sound hv hu x y .neq (isK x || isK y) (fun h => h) f (fun z => fB (bif' true (Bool.not z) z) fun z => c (.bool z)) w with e | ⟨z, e, hg, h1, h2⟩
   ·exact .inl e
   ·exact .inr ⟨.bool (!z), .bool (!z), e.trans (fB_eq _ _), by simp [hg, h2], .bool _⟩
 unfold binV
 cases hv
 case int k n =>
  cases hu <;> try exact .inl rfl
  case geq j m hjm =>
   show bif' (isGtr op) (bif' (Nat.beq (kn k) (kn .i64)) (leI n (Int.ofNat j) fun z => bif' z (c (.bool false)) f) f) f = f ∨ _
   by_cases hg : isGtr op = true
   case neg => left; rw [eq_false_of_ne_true hg]; rfl
   by_cases hk : Nat.beq (kn k) (kn .i64) = true
   case neg => left; rw [hg, eq_false_of_ne_true hk]; rfl
   have := isGtr_eq hg; subst this
   have := kn_inj hk; subst this
   have hL : bif' (isGtr .gtr) (bif' (Nat.beq (kn .i64) (kn .i64)) (leI n (Int.ofNat j) fun z => bif' z (c (.bool false)) f) f) f = bif' (decide (n ≤ Int.ofNat j)) (c (.bool false)) f := by
    rw [hg, bif_true, hk, bif_true, leI_eq]
   by_cases hle : n ≤ Int.ofNat j
   ·rw [decide_eq_true hle] at hL
    refine .inr ⟨.bool false, .bool false, hL, ?_, .bool _⟩
    have : ¬ m < n := by have := Int.le_trans hle hjm; omega
    simp [hint, Go.binOp, Op.intCmp, this]
   ·left; rw [decide_eq_false hle] at hL; exact hL
  rename_i j m
  show bif' (isSh op) (shBin op k n m f c) (bif' (Nat.beq (kn k) (kn j)) (intBin op k n m f c) f) = f ∨ _
  by_cases hs : isSh op = true
  ·rcases shBin_sound P w t op k j n m f c with e | ⟨r, r', e, hr, hv⟩
   ·left; rw [hs, bif_true, e]
   ·refine .inr ⟨r, r', ?_, by simp [hint, hr], hv φ⟩
    show bif' (isSh op) (shBin op k n m f c) _ = _
    rw [hs, bif_true, e]
  ·by_cases hk : Nat.beq (kn k) (kn j) = true
   case neg => left; rw [eq_false_of_ne_true hs, eq_false_of_ne_true hk]; rfl
   have hkj := kn_inj hk
   subst hkj
   rcases intBin_sound P w t op k n m f c with e | ⟨r, r', e, hr, hv⟩
   ·left; rw [eq_false_of_ne_true hs, hk, bif_false, bif_true, e]
   ·refine .inr ⟨r, r', ?_, by simp [hint, hr], hv φ⟩
    show bif' (isSh op) _ (bif' (Nat.beq (kn k) (kn k)) (intBin op k n m f c) f) = _
    rw [eq_false_of_ne_true hs, hk, bif_false, bif_true, e]
 case str l s hs =>
  cases hu <;> try exact .inl rfl
  rename_i l' s' hs'
  rcases strBin_sound P w t op l l' s s' hs hs' f c with e | ⟨r, r', e, hr, hv⟩
  ·exact .inl e
  ·exact .inr ⟨r, r', e, by simp [eqGuard_ok op t x y (.string s) (.string s') w (fun h => by cases h) (fun _ _ h => by cases h), hr], hv φ⟩
 case agg l cs h h1 =>
  cases hu <;> try (cases op <;> exact .inl rfl)
  rename_i m ds g g1
  have key : ∀ (neg : Bool) (hop : op = if neg then BinOp.neq else BinOp.eql),
    Option.rec (motive := fun _ => β) f (fun ks => bif' (Bool.and (Nat.beq l.length ks.length) (Nat.beq m.length ks.length)) (eqCs l m ks f fun z => fB (bif' neg (Bool.not z) z) fun z => c (.bool z)) f) (plainK P t) = f ∨
    ∃ r r', Option.rec (motive := fun _ => β) f (fun ks => bif' (Bool.and (Nat.beq l.length ks.length) (Nat.beq m.length ks.length)) (eqCs l m ks f fun z => fB (bif' neg (Bool.not z) z) fun z => c (.bool z)) f) (plainK P t) = c r ∧
     (do eqGuard op t x y (.agg cs) (.agg ds); Go.binOp op t (.agg cs) (.agg ds) : Sem Value).run P w = .ok r' w ∧ VRel P φ r r' := by
   intro neg hop
   cases hp : plainK P t with
   | none => exact .inl rfl
   | some ks =>
    show bif' _ _ f = f ∨ _
    by_cases hl : Bool.and (Nat.beq l.length ks.length) (Nat.beq m.length ks.length) = true
    case neg => left; rw [eq_false_of_ne_true hl]; rfl
    have hl' := hl
    simp only [Bool.and_eq_true, Nat.beq_eq] at hl'
    obtain ⟨hgd, hk⟩ := plainK_sound (φ := φ) hp
    rcases hk β l m cs ds f (fun z => fB (bif' neg (Bool.not z) z) fun z => c (.bool z)) h g hl'.1 hl'.2 with e | ⟨z, e, hz⟩
    ·left; rw [hl, bif_true, e]
    ·have hg : (eqGuard op t x y (.agg cs) (.agg ds)).run P w = .ok () w := run_eqGuard_agg w op t x y cs ds hgd
     right
     refine ⟨.bool (bif' neg (Bool.not z) z), .bool (bif' neg (Bool.not z) z), ?_, ?_, .bool _⟩
     ·show bif' _ (eqCs l m ks f fun z => fB (bif' neg (Bool.not z) z) fun z => c (.bool z)) f = _
      rw [hl, bif_true, e, fB_eq]
     ·subst hop
      cases neg
      ·simp only [Bool.false_eq_true, if_false] at hg ⊢
       simp only [Sem.run_bind, hg, Result.andThen_ok, run_eql_struct, hz]; rfl
      ·simp only [if_true] at hg ⊢
       simp only [Sem.run_bind, hg, Result.andThen_ok, run_neq_struct, hz]; rfl
  cases op <;> try exact .inl rfl
  ·exact key false rfl
  ·exact key true rfl
 all_goals exact gen f c
noncomputable def binR (P : Program) (ek : EK) (pk : Option (List LK)) (lit : Bool) (op : BinOp) (x y : X) (T : Tr AV) (H : Heap) : R1 :=
 withX T x .fail fun v => withX T y .fail fun u => binV P ek pk lit op v u .fail fun r => .val r H
theorem bin_sound (hw : WRel P φ H w) {t s : TypeId} {o1 o2 : Operand} {x y : X} (hx : cX o1 = some x) (hy : cX o2 = some y) (ht : TRelAt P φ T a.tmps (· ∈ tmpsOf [o1, o2])) (op : BinOp) (oo : Oper) (ho : oo.op = .binOp op t o1 o2 s) :
  Ran0 P φ H w (execOp a.eval oo) (binR P (ekOf P t) (plainK P t) (isK o1 || isK o2) op x y T H) := by
 unfold binR
 rcases withX_eq T x R1.fail (fun v => withX T y .fail fun u => binV P (ekOf P t) (plainK P t) (isK o1 || isK o2) op v u .fail fun r => .val r H) with ⟨_, e⟩ | ⟨v, hv, e⟩ <;> rw [e]
 ·exact .fail
 rcases withX_eq T y R1.fail (fun u => binV P (ekOf P t) (plainK P t) (isK o1 || isK o2) op v u .fail fun r => .val r H) with ⟨_, e⟩ | ⟨u, hu, e⟩ <;> rw [e]
 ·exact .fail
 have hv' := evX_sound (ht.sub fun t h => by simp only [tmpsOf, List.filterMap_cons, List.filterMap_nil] at h ⊢; split at h <;> simp_all) hx hv
 have hu' := evX_sound (ht.sub fun t h => by simp only [tmpsOf, List.filterMap_cons, List.filterMap_nil] at h ⊢; (split at h <;> split) <;> simp_all) hy hu
 rcases binV_sound (t := t) hv' hu' o1 o2 op R1.fail (fun r => .val r H) w with e | ⟨r, r', e, hr, hvr⟩ <;> rw [e]
 ·exact .fail
 refine .pure hw ?_ hvr
 unfold execOp
 rw [ho]
 exact run_v hr
noncomputable def unR (op : UnOp) (x : X) (T : Tr AV) (H : Heap) : R1 := withX T x .fail fun v =>
 UnOp.rec (motive := fun _ => R1) (asIntC v .fail fun k n => subC k 0 n fun n => .val (.int k n) H) .fail (asBoolC v .fail fun b => fB (Bool.not b) fun b => .val (.bool b) H) .fail op
theorem un_sound (hw : WRel P φ H w) {o : Operand} {x : X} (hx : cX o = some x) (ht : TRelAt P φ T a.tmps (· ∈ tmpsOf [o])) (op : UnOp) :
  Ran0 P φ H w (do return Next.value (← Op.unary op (a.eval o))) (unR op x T H) := by
 unfold unR
 rcases withX_eq T x R1.fail (fun v => UnOp.rec (motive := fun _ => R1) (asIntC v .fail fun k n => subC k 0 n fun n => .val (.int k n) H) .fail (asBoolC v .fail fun b => fB (Bool.not b) fun b => .val (.bool b) H) .fail op) with ⟨_, e⟩ | ⟨v, hv, e⟩ <;> rw [e]
 ·exact .fail
 have hv' := evX_sound ht hx hv
 generalize a.eval o = y at *
 cases op <;> try exact .fail
 ·cases hv' <;> try exact .fail
  rename_i k n
  show Ran0 P φ H w _ (subC k 0 n fun n => .val (.int k n) H)
  rw [subC_eq]
  exact .pure hw (run_v (by simp [Op.unary, Op.intArith])) (.int _ _)
 ·cases hv' <;> try exact .fail
  rename_i b
  show Ran0 P φ H w _ (fB (Bool.not b) fun b => .val (.bool b) H)
  rw [fB_eq]
  exact .pure hw (run_v (by simp [Op.unary])) (.bool _)
end Go.Ev
