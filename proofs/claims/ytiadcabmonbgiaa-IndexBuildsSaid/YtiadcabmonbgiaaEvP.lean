/- Calls: of a function, of a function value, of a method; of what has no body and looks at no memory. -/
import Derived.Test.YtiadcabmonbgiaaEvO
namespace Go.Ev
variable {P : Program} {φ : Phi} {H : Heap} {w u : World} {T : Tr AV} {a : Act}

/-! ### A run that looks at no memory -/
def pureRun (P : Program) {α : Type} : Sem α → Option α
  | .pure a => some a
  | .program k => pureRun P (k P)
  | .mark _ k => pureRun P k
  | _ => none
theorem pureRun_sound {α : Type} : ∀ (s : Sem α) (x : α), pureRun P s = some x → ∀ w, s.run P w = .ok x w
  | .pure a, x, h, w => by simp only [pureRun, Option.some.injEq] at h; subst h; rfl
  | .program k, x, h, w => by simp only [pureRun] at h; exact pureRun_sound (k P) x h w
  | .mark m k, x, h, w => by simp only [pureRun] at h; exact pureRun_sound k x h w
  | .load .., x, h, w => by simp [pureRun] at h
  | .store .., x, h, w => by simp [pureRun] at h
  | .new .., x, h, w => by simp [pureRun] at h
  | .shape .., x, h, w => by simp [pureRun] at h
  | .freeze .., x, h, w => by simp [pureRun] at h
  | .frozen .., x, h, w => by simp [pureRun] at h
  | .getObj .., x, h, w => by simp [pureRun] at h
  | .setObj .., x, h, w => by simp [pureRun] at h
  | .choose .., x, h, w => by simp [pureRun] at h
  | .sys .., x, h, w => by simp [pureRun] at h
  | .halt .., x, h, w => by simp [pureRun] at h

/-! ### Values that hold no address, as the model has them -/
def toV1 (P : Program) : AV → Option Value
  | .bool b => some (.bool b)
  | .int k n => some (.int k n)
  | .str l => some (.string ⟨(l.map UInt8.ofNat).toArray⟩)
  | .nilp => some (.pointer none)
  | .nils => some (.slice none 0 0)
  | .nilf => some .nilFunc
  | .nili => some .nilIface
  | .typ t => some (typeHandle P t)
  | _ => none
def toV1s (P : Program) : List AV → Option (List Value)
  | [] => some []
  | v :: l => (toV1 P v).bind fun x => (toV1s P l).map fun r => x :: r
def toV (P : Program) : AV → Option Value
  | .agg l => (toV1s P l).map fun l => .agg l.toArray
  | .iface t (.agg l) => (toV1s P l).map fun l => .iface t (.agg l.toArray)
  | .iface t v => (toV1 P v).map (.iface t)
  | v => toV1 P v
def toVs (P : Program) : List AV → Option (List Value)
  | [] => some []
  | v :: l => (toV P v).bind fun x => (toVs P l).map fun r => x :: r

theorem bytes_back (s : ByteArray) : (⟨((s.data.toList.map (·.toNat)).map UInt8.ofNat).toArray⟩ : ByteArray) = s := by
  cases s with
  | mk d =>
    congr 1
    apply Array.ext'
    simp only [List.map_map]
    have : (UInt8.ofNat ∘ fun x : UInt8 => x.toNat) = id := by funext b; simp
    rw [this]; simp
theorem toV1_sound {v : AV} {v' x : Value} (h : VRel P φ v v') (hx : toV1 P v = some x) : x = v' := by
  cases h <;> simp only [toV1, Option.some.injEq] at hx <;> first
    | exact hx.symm
    | (cases hx; done)
    | (rename_i l s hs; subst hs; rw [← hx]; congr 1; exact bytes_back s)
theorem toV1s_sound : ∀ {l : List AV} {l' x : List Value}, VRels P φ l l' → toV1s P l = some x → x = l'
  | _, _, x, .nil, h => by simp only [toV1s, Option.some.injEq] at h; exact h.symm
  | _, _, x, .cons v l v' l' hv hl, h => by
    simp only [toV1s] at h
    cases h1 : toV1 P v with
    | none => simp [h1] at h
    | some y =>
      cases h2 : toV1s P l with
      | none => simp [h1, h2] at h
      | some r =>
        simp [h1, h2] at h
        subst h
        rw [toV1_sound hv h1, toV1s_sound hl h2]
theorem toV_sound {v : AV} {v' x : Value} (h : VRel P φ v v') (hx : toV P v = some x) : x = v' := by
  unfold toV at hx
  split at hx
  · simp only [Option.map_eq_some_iff] at hx
    obtain ⟨r, h3, rfl⟩ := hx
    cases h with
    | agg l c h1 h2 => rw [toV1s_sound h1 h3]
  · simp only [Option.map_eq_some_iff] at hx
    obtain ⟨r, h3, rfl⟩ := hx
    cases h with
    | iface t v v' h =>
      cases h with
      | agg l c h1 h2 => rw [toV1s_sound h1 h3]
  · simp only [Option.map_eq_some_iff] at hx
    obtain ⟨r, h3, rfl⟩ := hx
    cases h with
    | iface t v v' h => rw [toV1_sound h h3]
  · exact toV1_sound h hx
theorem toVs_sound : ∀ {l : List AV} {l' x : List Value}, VRels P φ l l' → toVs P l = some x → x = l'
  | _, _, x, .nil, h => by simp only [toVs, Option.some.injEq] at h; exact h.symm
  | _, _, x, .cons v l v' l' hv hl, h => by
    simp only [toVs] at h
    cases h1 : toV P v with
    | none => simp [h1] at h
    | some y =>
      cases h2 : toVs P l with
      | none => simp [h1, h2] at h
      | some r =>
        simp [h1, h2] at h
        subst h
        rw [toV_sound hv h1, toVs_sound hl h2]

/-- back: the model's, where it holds no address but a type's -/
def fromV1 (P : Program) (v : Value) : Option AV := match v with
  | .pointer (some ⟨b, t, none⟩) => if b = P.globals.size then some (.typ t) else none
  | v => ofScalar v
def fromV1s (P : Program) : List Value → Option (List AV)
  | [] => some []
  | v :: l => (fromV1 P v).bind fun x => (fromV1s P l).map fun r => x :: r
def fromV (P : Program) : Value → Option AV
  | .iface t (.agg c) => (fromV1s P c.toList).map fun l => .iface t (.agg l)
  | .iface t v => (fromV1 P v).map (.iface t)
  | v => fromV1 P v
theorem fromV1_sound {v : Value} {x : AV} (h : fromV1 P v = some x) : VRel P φ x v ∧ v.oneCell' = true := by
  unfold fromV1 at h
  split at h
  · split at h
    · rename_i hb; subst hb; cases h; exact ⟨.typ _, rfl⟩
    · cases h
  · exact ofScalar_sound h
theorem fromV1s_sound : ∀ {l : List Value} {x : List AV}, fromV1s P l = some x → VRels P φ x l ∧ ∀ v ∈ l, v.oneCell' = true
  | [], _, h => by cases h; exact ⟨.nil, by simp⟩
  | v :: l, x, h => by
    simp only [fromV1s] at h
    cases h1 : fromV1 P v with
    | none => simp [h1] at h
    | some y =>
      cases h2 : fromV1s P l with
      | none => simp [h1, h2] at h
      | some r =>
        simp [h1, h2] at h
        subst h
        have a := fromV1_sound (P := P) (φ := φ) h1
        have b := fromV1s_sound h2
        exact ⟨.cons _ _ _ _ a.1 b.1, by simpa using ⟨a.2, b.2⟩⟩
theorem fromV_sound {v : Value} {x : AV} (h : fromV P v = some x) : VRel P φ x v := by
  unfold fromV at h
  split at h
  · cases h1 : fromV1s P _ with
    | none => rw [h1] at h; cases h
    | some r => rw [h1] at h; cases h; have := fromV1s_sound (P := P) (φ := φ) h1; exact .iface _ _ _ (.agg _ _ this.1 this.2)
  · cases h1 : fromV1 P _ with
    | none => rw [h1] at h; cases h
    | some r => rw [h1] at h; cases h; exact .iface _ _ _ (fromV1_sound h1).1
  · exact (fromV1_sound h).1

/-! ### Do two slices overlap? -/
theorem ovl_typed : Extern.allTypedRows.lookup "slices.overlaps" = some Extern.SlicesOverlaps.overlaps := by kernel_rfl
theorem ovl_generic : Extern.allGenericRows.lookup "slices.overlaps" = none := by kernel_rfl
theorem ovl_next : Extern.allNextRows.lookup "slices.overlaps" = none := by kernel_rfl
def elemOfS (P : Program) (t : TypeId) : Option TypeId := match P.underlying t with
  | some (.slice e) => some e
  | _ => none
/-- a function that asks whether two slices overlap: how many cells an element has -/
def ovlOf (P : Program) (f : FuncId) : Option Nat := (P.funcs[f]?).bind fun fn =>
  if fn.origin = "slices.overlaps" ∧ fn.body.isNone = true ∧ (fn.name == "runtime.NumGoroutine") = false ∧ (Extern.allNextRows.lookup fn.name).isNone = true ∧ (Extern.allGenericRows.lookup fn.name).isNone = true ∧ (Extern.allTypedRows.lookup fn.name).isNone = true ∧ (Extern.allRows.lookup fn.name).isNone = true then
    (fn.params[0]?).bind fun t => (elemOfS P t).bind fun e => szT P e else none

theorem run_overlaps {f : FuncId} {n : Nat} (h : ovlOf P f = some n) : ∃ t e fn, P.funcs[f]? = some fn ∧ fn.params[0]? = some t ∧ P.underlying t = some (.slice e) ∧ szT P e = some n ∧
    ∀ (args : Array Value) (w u : World) (v : Value), (Extern.SlicesOverlaps.overlaps fn.params fn.resultTypes args).run P w = .ok v u → (callFunc f args).run P w = .ok (.value v) u := by
  unfold ovlOf at h
  cases hf : P.funcs[f]? with
  | none => rw [hf] at h; cases h
  | some fn =>
    rw [hf] at h
    simp only [Option.bind_some] at h
    split at h
    case isFalse => cases h
    rename_i hc
    obtain ⟨ho, hb, hng, h1, h2, h3, h4⟩ := hc
    cases hp : fn.params[0]? with
    | none => rw [hp] at h; cases h
    | some t =>
      rw [hp] at h
      simp only [Option.bind_some] at h
      cases he : elemOfS P t with
      | none => rw [he] at h; cases h
      | some e =>
        rw [he] at h
        have hu : P.underlying t = some (.slice e) := by unfold elemOfS at he; split at he <;> cases he; assumption
        refine ⟨t, e, fn, rfl, hp, hu, h, fun args w u v hr => ?_⟩
        have hn : Extern.findNext fn = none := by
          unfold Extern.findNext
          simp only [Option.isNone_iff_eq_none] at h1
          simp [h1, ho, ovl_next]
        have hfind : Extern.find fn = some (Extern.SlicesOverlaps.overlaps fn.params fn.resultTypes) := by
          unfold Extern.find
          simp only [Option.isNone_iff_eq_none] at h2 h3 h4
          simp [h2, h3, h4, ho, ovl_typed, ovl_generic]
        have hb' : fn.body = none := by simpa using hb
        have hng' : ¬ fn.name = "runtime.NumGoroutine" := by simpa using hng
        simp [callFunc, hf, hng', hb', hn, hfind, hr]

/-- what the outer function does at two slices -/
theorem ovl_match {motive : Array Value → Sort _} (a b : Option Addr) (la lb c c' : Nat) (h1 : (a : Option Addr) → (la cap : Nat) → (b : Option Addr) → (lb cap_1 : Nat) → motive #[Value.slice a la cap, Value.slice b lb cap_1]) (h2 : (x : Array Value) → motive x) :
    Extern.SlicesOverlaps.overlaps.match_4 motive #[Value.slice a la c, Value.slice b lb c'] h1 h2 = h1 a la c b lb c' := rfl

noncomputable def ovlC (n : Nat) (args : List AV) (H : Heap) : R1 :=
  List.rec (motive := fun _ => R1) .fail (fun v r _ => List.rec (motive := fun _ => R1) .fail (fun u r2 _ => List.rec (motive := fun _ => R1)
    (asSliceC v .fail .fail fun k off len es _ _ => asSliceC u .fail .fail fun k' off' len' es' _ _ =>
      bif' (bif' (Nat.beq len 0) true (Nat.beq len' 0)) (.val (.bool false) H)
        (bif' (k.beq k') (bif' (Nat.beq n 0) .fail (fB (Bool.and (Nat.blt off (off' + len' * n)) (Nat.blt off' (off + len * n))) fun b => .val (.bool b) H))
          (blkC H k .fail fun wr es _ => bif' (Bool.and wr (Bool.not (Nat.beq es 1))) (blkC H k' .fail fun _ _ _ => bif' (Nat.beq n 0) .fail (bif' (Nat.beq es' 0) .fail (.val (.bool false) H))) .fail)))
    (fun _ _ _ => .fail) r2) r) args

theorem ovlC_sound (hw : WRel P φ H w) {f : FuncId} {n : Nat} (hn : ovlOf P f = some n) {args : List AV} {args' : Array Value} (hv : VRels P φ args args'.toList) : Ran P φ H w (callFunc f args') (ovlC n args H) := by
  obtain ⟨t, e, fn, hf, hp, hu, hsz, hrun⟩ := run_overlaps hn
  have hae : args' = args'.toList.toArray := by simp
  rw [hae]
  generalize args'.toList = l at hv
  cases hv with
  | nil => exact .fail
  | cons v r v' r' hv hr =>
  cases hr with
  | nil => exact .fail
  | cons u r2 u' r2' hu' hr2 =>
  cases hr2 with
  | cons _ _ _ _ _ _ => exact .fail
  | nil =>
  cases hv <;> try exact .fail
  · rename_i k off len es ex cap at_ c hk hx hc hl hlen
    cases hu' <;> try exact .fail
    · rename_i k' off' len' es' ex' cap' at' c' hk' hx' hc' hl' hlen'
      show Ran P φ H w _ (bif' (bif' (Nat.beq len 0) true (Nat.beq len' 0)) (.val (.bool false) H)
        (bif' (k.beq k') (bif' (Nat.beq n 0) .fail (fB (Bool.and (Nat.blt off (off' + len' * n)) (Nat.blt off' (off + len * n))) fun b => .val (.bool b) H))
          (blkC H k .fail fun wr es _ => bif' (Bool.and wr (Bool.not (Nat.beq es 1))) (blkC H k' .fail fun _ _ _ => bif' (Nat.beq n 0) .fail (bif' (Nat.beq es' 0) .fail (.val (.bool false) H))) .fail)))
      by_cases h0 : bif' (Nat.beq len 0) true (Nat.beq len' 0) = true
      · rw [h0, bif_true]
        have h0' : len = 0 ∨ len' = 0 := by
          rw [bif_eq] at h0
          split at h0
          · left; exact Nat.eq_of_beq_eq_true (by assumption)
          · right; exact Nat.eq_of_beq_eq_true h0
        refine .pure hw (hrun _ _ _ (.bool false) ?_) (.bool false)
        show (Extern.SlicesOverlaps.overlaps fn.params fn.resultTypes #[_, _]).run P w = _
        unfold Extern.SlicesOverlaps.overlaps
        rw [ovl_match]
        rcases h0' with h | h <;> simp [hp, run_underlying hu, run_sizeOf' hsz, h]
      rw [eq_false_of_ne_true h0, bif_false]
      have h0' : len ≠ 0 ∧ len' ≠ 0 := by
        rw [bif_eq] at h0
        refine ⟨fun e => ?_, fun e => ?_⟩ <;> subst e <;> apply h0
        · rfl
        · split <;> rfl
      by_cases hkk : k.beq k' = true
      · rw [hkk, bif_true]
        have := (K.beq_iff _ _).1 hkk; subst this
        rw [hk] at hk'; cases hk'
        by_cases hn0 : Nat.beq n 0 = true
        · rw [hn0]; exact .fail
        rw [eq_false_of_ne_true hn0, bif_false, fB_eq]
        have hn0' : n ≠ 0 := fun e => hn0 (by rw [e]; rfl)
        refine .pure hw (hrun _ _ _ (.bool _) ?_) (.bool _)
        show (Extern.SlicesOverlaps.overlaps fn.params fn.resultTypes #[_, _]).run P w = _
        unfold Extern.SlicesOverlaps.overlaps
        rw [ovl_match]
        simp only [hp, Sem.run_bind, Result.andThen_ok, run_underlying hu, run_sizeOf' hsz, h0'.1, h0'.2, hn0', or_self, if_false, bne_self_eq_false, Bool.false_and, Bool.false_eq_true, beq_self_eq_true, Bool.true_and, Sem.run_pure]
        simp
        rw [Bool.eq_iff_iff]
        simp only [Bool.and_eq_true, decide_eq_true_eq, Nat.blt_eq]
        omega
      rw [eq_false_of_ne_true hkk, bif_false]
      have hne : k ≠ k' := fun e => hkk ((K.beq_iff _ _).2 e)
      rcases blkC_eq H k R1.fail (fun wr es _ => bif' (Bool.and wr (Bool.not (Nat.beq es 1))) (blkC H k' .fail fun _ _ _ => bif' (Nat.beq n 0) .fail (bif' (Nat.beq es' 0) .fail (.val (.bool false) H))) .fail) with e1 | ⟨wr, es1, rows, hg, e1⟩ <;> rw [e1] <;> clear e1
      · exact .fail
      by_cases hwe : Bool.and wr (Bool.not (Nat.beq es1 1)) = true
      case neg => rw [eq_false_of_ne_true hwe]; exact .fail
      rw [hwe, bif_true]
      simp only [Bool.and_eq_true, Bool.not_eq_true'] at hwe
      obtain ⟨rfl, hes1⟩ := hwe
      have hes1 : es1 ≠ 1 := fun e => by subst e; cases hes1
      rcases blkC_eq H k' R1.fail (fun _ _ _ => bif' (Nat.beq n 0) .fail (bif' (Nat.beq es' 0) .fail (.val (.bool false) H))) with e1 | ⟨wr', es2, rows', hg', e1⟩ <;> rw [e1] <;> clear e1
      · exact .fail
      by_cases hn0 : Nat.beq n 0 = true
      · rw [hn0]; exact .fail
      rw [eq_false_of_ne_true hn0, bif_false]
      by_cases he0 : Nat.beq es' 0 = true
      · rw [he0]; exact .fail
      rw [eq_false_of_ne_true he0, bif_false]
      have hn0' : n ≠ 0 := fun e => hn0 (by rw [e]; rfl)
      have he0' : es' ≠ 0 := fun e => he0 (by rw [e]; rfl)
      have hb : at_.b ≠ at'.b := fun e => hw.inj k k' _ _ at_ at' hne hg hg' hk hk' trivial trivial e rfl
      obtain ⟨_, _, pre, vs, post, e1, lo, hi, g1, g2, g3, g4, g5, g6⟩ := hw.blk k _ at_ hg hk
      obtain ⟨_, _, pre', vs', post', e1', lo', hi', g1', g2', g3', g4', g5', g6'⟩ := hw.blk k' _ at' hg' hk'
      have hfz : ∀ o, w.frozen? ⟨at_.b, o, none⟩ = false := by
        intro o
        have : hi ≤ lo := (g4 rfl).resolve_right fun h => hes1 h.2
        simp only [World.frozen?, g1]
        rw [Bool.and_eq_false_iff]
        by_cases h : lo ≤ o
        · right; simp; omega
        · left; simpa using h
      have hlen0 : (pre' ++ vs' ++ post').toArray.size ≠ 0 := by
        simp only [List.size_toArray]
        rw [g3']
        have : 1 * 1 ≤ c' * es' := Nat.mul_le_mul (by omega) (by omega)
        omega
      have hs1 : w.shape? at_.b = some (e1, (pre ++ vs ++ post).toArray.size) := by simp only [World.shape?, g1]
      have hs2 : w.shape? at'.b = some (e1', (pre' ++ vs' ++ post').toArray.size) := by simp only [World.shape?, g1']
      refine .pure hw (hrun _ _ _ (.bool false) ?_) (.bool false)
      show (Extern.SlicesOverlaps.overlaps fn.params fn.resultTypes #[_, _]).run P w = _
      unfold Extern.SlicesOverlaps.overlaps
      rw [ovl_match]
      have hv1 : (noView ⟨at_.b, at_.o + off, none⟩).run P w = .ok () w := by simp [noView, viewAt, hs1]
      have hv2 : (noView ⟨at'.b, at'.o + off', none⟩).run P w = .ok () w := by simp [noView, viewAt, hs2]
      have hst1 : (stringish ⟨at_.b, at_.o + off, none⟩).run P w = .ok false w := by simp [stringish, hfz, hs1]
      have hst2 : ∃ b, (stringish ⟨at'.b, at'.o + off', none⟩).run P w = .ok b w := by
        unfold stringish
        cases hf2 : w.frozen? ⟨at'.b, at'.o + off', none⟩
        · exact ⟨_, by simp [hf2, hs2]; rfl⟩
        · exact ⟨true, by simp [hf2]⟩
      obtain ⟨b2, hst2⟩ := hst2
      have hmb : (mayBeOne ⟨at_.b, at_.o + off, none⟩ ⟨at'.b, at'.o + off', none⟩).run P w = .ok false w := by
        unfold mayBeOne
        simp only [Sem.run_bind, hst1, hst2, Result.andThen_ok, run_shape, hs1, hs2, Sem.run_pure, Bool.false_and, Bool.false_or]
        congr 1
        generalize (pre' ++ vs' ++ post').toArray.size = z at hlen0
        cases z with
        | zero => exact absurd rfl hlen0
        | succ z => simp
      have hbb : (at_.b == at'.b) = false := by simpa using hb
      simp [hp, run_underlying hu, run_sizeOf' hsz, h0'.1, h0'.2, hn0', hb, hfz, hv1, hv2, hmb]
    · rename_i k' off' es' ex' at' x' hk'
      have e1 : ovlC n [AV.slice k off len es ex cap, AV.slice k' off' 0 es' ex' 0] H = bif' (bif' (Nat.beq len 0) true true) (.val (.bool false) H) (bif' (k.beq k') (bif' (Nat.beq n 0) .fail (fB (Bool.and (Nat.blt off (off' + 0 * n)) (Nat.blt off' (off + len * n))) fun b => .val (.bool b) H))
          (blkC H k .fail fun wr es _ => bif' (Bool.and wr (Bool.not (Nat.beq es 1))) (blkC H k' .fail fun _ _ _ => bif' (Nat.beq n 0) .fail (bif' (Nat.beq es' 0) .fail (.val (.bool false) H))) .fail)) := rfl
      have e2 : bif' (Nat.beq len 0) true true = true := by rw [bif_eq]; split <;> rfl
      rw [e1, e2, bif_true]
      refine .pure hw (hrun _ _ _ (.bool false) ?_) (.bool false)
      show (Extern.SlicesOverlaps.overlaps fn.params fn.resultTypes #[_, _]).run P w = _
      unfold Extern.SlicesOverlaps.overlaps
      rw [ovl_match]
      simp [hp, run_underlying hu, run_sizeOf' hsz]
  · cases hu' <;> try exact .fail
    · refine .pure hw (hrun _ _ _ (.bool false) ?_) (.bool false)
      show (Extern.SlicesOverlaps.overlaps fn.params fn.resultTypes #[_, _]).run P w = _
      unfold Extern.SlicesOverlaps.overlaps
      rw [ovl_match]
      simp [hp, run_underlying hu, run_sizeOf' hsz]
    · refine .pure hw (hrun _ _ _ (.bool false) ?_) (.bool false)
      show (Extern.SlicesOverlaps.overlaps fn.params fn.resultTypes #[_, _]).run P w = _
      unfold Extern.SlicesOverlaps.overlaps
      rw [ovl_match]
      simp [hp, run_underlying hu, run_sizeOf' hsz]

/-! ### Calls -/
/-- a function that is entered -/
def callOk (P : Program) (f : FuncId) : Bool := match P.funcs[f]? with
  | some fn => fn.body.isSome && !(fn.name == "runtime.NumGoroutine")
  | none => false
theorem run_callFunc {f : FuncId} (h : callOk P f = true) (args : Array Value) (w : World) : (callFunc f args).run P w = .ok (.enter f args) w := by
  unfold callOk at h
  split at h
  · rename_i fn hf
    simp only [Bool.and_eq_true, Bool.not_eq_true'] at h
    obtain ⟨h1, h2⟩ := h
    have h3 : fn.body.isNone = false := by cases hb : fn.body <;> simp_all
    simp only [callFunc, Sem.run_bind, run_program, Result.andThen_ok, hf, h2, Bool.false_eq_true, if_false, h3, Sem.run_pure]
  · cases h

/-- what an outer function answers -/
def extV (P : Program) (f : FuncId) (args : List Value) : Option AV := match pureRun P (callFunc f args.toArray) with
  | some (.value v) => fromV P v
  | _ => none
noncomputable def callC (P : Program) (f : FuncId) (args : List AV) (H : Heap) : R1 :=
  bif' (callOk P f) (.call f args) (Option.rec (motive := fun _ => R1) (Option.rec (motive := fun _ => R1) .fail (fun l => Option.rec (motive := fun _ => R1) .fail (fun v => .val v H) (extV P f l)) (toVs P args)) (fun n => ovlC n args H) (ovlOf P f))
theorem callC_sound (hw : WRel P φ H w) (f : FuncId) {args : List AV} {args' : Array Value} (hv : VRels P φ args args'.toList) : Ran P φ H w (callFunc f args') (callC P f args H) := by
  unfold callC
  by_cases hc : callOk P f = true
  · rw [hc, bif_true]
    exact .call f args args' (run_callFunc hc _ _) hv
  · rw [eq_false_of_ne_true hc, bif_false]
    cases hov : ovlOf P f with
    | some n => exact ovlC_sound hw hov hv
    | none =>
    show Ran P φ H w _ (Option.rec (motive := fun _ => R1) .fail (fun l => Option.rec (motive := fun _ => R1) .fail (fun v => .val v H) (extV P f l)) (toVs P args))
    cases h1 : toVs P args with
    | none => exact .fail
    | some l =>
      show Ran P φ H w _ (Option.rec (motive := fun _ => R1) .fail (fun v => .val v H) (extV P f l))
      cases h2 : extV P f l with
      | none => exact .fail
      | some v =>
        have hl := toVs_sound hv h1
        subst hl
        unfold extV at h2
        split at h2
        · rename_i x hx
          exact .pure hw (pureRun_sound _ _ (by simpa using hx) w) (fromV_sound h2)
        · cases h2

theorem cXs_ops {l : List Operand} : (l.map a.eval) = (l.toArray.map a.eval).toList := by simp

/-- a call of a known function -/
noncomputable def callS (P : Program) (f : FuncId) (xs : List X) (T : Tr AV) (H : Heap) : R1 := withXs T xs .fail fun vs => callC P f vs H
theorem callS_sound (hw : WRel P φ H w) {c : Call} {f : FuncId} (hc : c.callee = .value (.func f)) {xs : List X} (hx : cXs c.args.toList = some xs) (ht : TRelAt P φ T a.tmps (· ∈ tmpsOf c.args.toList)) (ty : TypeId) :
    Ran P φ H w (do let d ← resolve a.eval c ty; invoke d.target d.args) (callS P f xs T H) := by
  unfold callS
  rcases withXs_sound (P := P) (φ := φ) (a := a) R1.fail (fun vs => callC P f vs H) ht hx with e | ⟨vs, e, hv⟩ <;> rw [e]
  · exact .fail
  have h := callC_sound hw f (args := vs) (args' := c.args.map a.eval) (by simpa using hv)
  have hr : (do let d ← resolve a.eval c ty; invoke d.target d.args : Sem Next) = callFunc f (c.args.map a.eval) := by
    simp only [resolve, hc, Act.eval, Deferred.ofValue, pure_bind, invoke, Array.append_empty, Array.empty_append]
  rw [hr]; exact h

/-- a call of a function value -/
noncomputable def callX (P : Program) (x : X) (xs : List X) (T : Tr AV) (H : Heap) : R1 := withX T x .fail fun v => withXs T xs .fail fun vs => asFnC v .fail fun fn first caps =>
  Fn.rec (motive := fun _ => R1) (fun f => appC first vs fun l => appC l caps fun l => callC P f l H) (fun _ => .fail) (fun _ _ => .fail) (fun _ _ _ _ => .fail) (fun _ => .fail) fn
theorem callX_sound (hw : WRel P φ H w) {c : Call} {o : Operand} (hc : c.callee = .value o) {x : X} (hx : cX o = some x) {xs : List X} (hxs : cXs c.args.toList = some xs) (ht : TRelAt P φ T a.tmps (· ∈ tmpsOf (o :: c.args.toList))) (ty : TypeId) :
    Ran P φ H w (do let d ← resolve a.eval c ty; invoke d.target d.args) (callX P x xs T H) := by
  unfold callX
  rcases withX_eq T x R1.fail _ with ⟨_, e⟩ | ⟨v, hv, e⟩ <;> rw [e] <;> clear e
  · exact .fail
  have hv' := evX_sound (tm3a ht) hx hv
  rcases withXs_sound (P := P) (φ := φ) (a := a) R1.fail (fun vs => asFnC v .fail fun fn first caps =>
    Fn.rec (motive := fun _ => R1) (fun f => appC first vs fun l => appC l caps fun l => callC P f l H) (fun _ => .fail) (fun _ _ => .fail) (fun _ _ _ _ => .fail) (fun _ => .fail) fn) (tm3b ht (fun _ h => h)) hxs with e | ⟨vs, e, hvs⟩ <;> rw [e] <;> clear e
  · exact .fail
  generalize hy : a.eval o = y at *
  cases hv' <;> try exact .fail
  rename_i fn first caps first' caps' h1 h2
  cases fn <;> try exact .fail
  rename_i f
  show Ran P φ H w _ (appC first vs fun l => appC l caps fun l => callC P f l H)
  rw [appC_eq, appC_eq]
  have h := callC_sound hw f (args := first ++ vs ++ caps) (args' := first' ++ c.args.map a.eval ++ caps') (by
    simp only [Array.toList_append, Array.toList_map]
    exact (h1.append hvs).append h2)
  have hr : (do let d ← resolve a.eval c ty; invoke d.target d.args : Sem Next) = callFunc f (first' ++ c.args.map a.eval ++ caps') := by
    simp only [resolve, hc, hy, Deferred.ofValue, pure_bind, invoke]
  rw [hr]; exact h

/-- the method of a type: it lies at no path, its receiver is the value itself -/
def methF (P : Program) (t : TypeId) (name : String) : Option FuncId := match P.info? t with
  | some i => match i.methods.find? (·.name == name) with
    | some m => if m.path.isEmpty then (match m.func, P.underlying t with
        | some (f, true), some (.pointer _) => some f
        | some (f, false), some (.pointer _) => none
        | some (f, false), some _ => some f
        | _, _ => none) else none
    | none => none
  | none => none
noncomputable def callM (P : Program) (x : X) (name : String) (xs : List X) (T : Tr AV) (H : Heap) : R1 := withX T x .fail fun v => withXs T xs .fail fun vs => asIfaceC v .fail (fun t u =>
  Option.rec (motive := fun _ => R1) .fail (fun f => callC P f (u :: vs) H) (methF P t name)) .fail
theorem run_method {t : TypeId} {name : String} {f : FuncId} (h : methF P t name = some f) (n : Nat) (v : Value) (w : World) : (method (n + 1) t v name).run P w = .ok (f, v) w := by
  unfold methF at h
  split at h
  case h_2 => cases h
  rename_i i hi
  split at h
  case h_2 => cases h
  rename_i m hm
  split at h
  case isFalse => cases h
  rename_i hp
  have hpath : m.path.toList = [] := by
    cases hq : m.path with
    | mk l => rw [hq] at hp; simpa using hp
  split at h
  · rename_i _ e hf hu
    cases h
    unfold method
    simp only [Sem.run_bind, typeInfo_of hi, Result.andThen_ok, hm, hpath, follow, Sem.run_pure, hf, receiverAt, run_underlying hu, Place.get]
  · cases h
  · rename_i f' d hne hf hu
    cases h
    unfold method
    simp only [Sem.run_bind, typeInfo_of hi, Result.andThen_ok, hm, hpath, follow, Sem.run_pure, hf, receiverAt, run_underlying hu]
    cases d <;> first
      | exact absurd rfl (hne _)
      | simp [Place.get]
  · cases h

theorem callM_sound (hw : WRel P φ H w) {c : Call} {o : Operand} {name : String} (hc : c.callee = .invoke o name) {x : X} (hx : cX o = some x) {xs : List X} (hxs : cXs c.args.toList = some xs) (ht : TRelAt P φ T a.tmps (· ∈ tmpsOf (o :: c.args.toList))) (ty : TypeId) :
    Ran P φ H w (do let d ← resolve a.eval c ty; invoke d.target d.args) (callM P x name xs T H) := by
  unfold callM
  rcases withX_eq T x R1.fail _ with ⟨_, e⟩ | ⟨v, hv, e⟩ <;> rw [e] <;> clear e
  · exact .fail
  have hv' := evX_sound (tm3a ht) hx hv
  rcases withXs_sound (P := P) (φ := φ) (a := a) R1.fail (fun vs => asIfaceC v .fail (fun t u =>
    Option.rec (motive := fun _ => R1) .fail (fun f => callC P f (u :: vs) H) (methF P t name)) .fail) (tm3b ht (fun _ h => h)) hxs with e | ⟨vs, e, hvs⟩ <;> rw [e] <;> clear e
  · exact .fail
  generalize hy : a.eval o = y at *
  cases hv' <;> try exact .fail
  rename_i t q q' hq
  show Ran P φ H w _ (Option.rec (motive := fun _ => R1) .fail (fun f => callC P f (q :: vs) H) (methF P t name))
  cases hm : methF P t name with
  | none => exact .fail
  | some f =>
    show Ran P φ H w _ (callC P f (q :: vs) H)
    have h := callC_sound hw f (args := q :: vs) (args' := #[q'] ++ c.args.map a.eval) (by
      simp only [Array.toList_append, Array.toList_map, List.singleton_append]
      exact .cons _ _ _ _ hq hvs)
    have hr : (do let d ← resolve a.eval c ty; invoke d.target d.args : Sem Next).run P w = (callFunc f (#[q'] ++ c.args.map a.eval)).run P w := by
      have hinv : invoke (.fn (.method name) #[]) (#[Value.iface t q'] ++ c.args.map a.eval) = callMethod (.iface t q') name (c.args.map a.eval) := by
        have hex : (#[Value.iface t q'] ++ c.args.map a.eval).extract 1 (#[Value.iface t q'] ++ c.args.map a.eval).size = c.args.map a.eval := by
          apply Array.ext'; simp [List.take_of_length_le]
        have h0 : (#[Value.iface t q'] ++ c.args.map a.eval)[0]? = some (.iface t q') := by rw [Array.getElem?_append_left (by simp)]; rfl
        unfold invoke
        simp only [h0, hex]
      simp only [resolve, hc, hy, pure_bind, hinv, callMethod, Sem.run_bind, run_program, Result.andThen_ok]
      have hmm := run_method hm (P.types.size + 99) q' w
      have : P.types.size + Made.depth = P.types.size + 99 + 1 := rfl
      rw [this, hmm]
      rfl
    generalize callC P f (q :: vs) H = r at *
    cases h with
    | fail => exact .fail
    | val v G nx v' u ψ hr' hn hw' he hv => exact .val v G nx v' u ψ (hr.trans hr') hn hw' he hv
    | call g args args' hr' ha => exact .call g args args' (hr.trans hr') ha
end Go.Ev
