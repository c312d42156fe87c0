/- Conversions; parts of values; addresses of parts. -/
import Derived.Test.YtiadcabmonbgiaaEvI
import Derived.Laws.BytesString
namespace Go.Ev
variable {P : Program} {φ : Phi} {H : Heap} {w : World} {T : Tr AV} {a : Act}

theorem sub2a {x y : Operand} {T : Tr AV} {tm : Array Value} (h : TRelAt P φ T tm (· ∈ tmpsOf [x, y])) : TRelAt P φ T tm (· ∈ tmpsOf [x]) :=
  h.sub fun t h => by simp only [tmpsOf, List.filterMap_cons, List.filterMap_nil] at h ⊢; split at h <;> simp_all
theorem sub2b {x y : Operand} {T : Tr AV} {tm : Array Value} (h : TRelAt P φ T tm (· ∈ tmpsOf [x, y])) : TRelAt P φ T tm (· ∈ tmpsOf [y]) :=
  h.sub fun t h => by simp only [tmpsOf, List.filterMap_cons, List.filterMap_nil] at h ⊢; (split at h <;> split) <;> simp_all

/-! ### Conversions -/
inductive Cv where
  | no | int (k : IntKind) | id | s2b (e : TypeId) | b2s
def isU8 (P : Program) (e : TypeId) : Bool := match P.underlying e with
  | some (.int .u8) => true
  | _ => false
def cvOf (P : Program) (src dst : TypeId) : Cv := match P.underlying src, P.underlying dst with
  | some _, some (.int k) => .int k
  | some .string, some .string => .id
  | some .string, some (.slice e) => if isU8 P e then .s2b e else .no
  | some (.slice e), some .string => if isU8 P e then .b2s else .no
  | _, _ => .no

section
variable {β : Type}
noncomputable def wrapC (k : IntKind) (n : Int) (c : Int → β) : β := Int.rec (motive := fun _ => β) (fun m => natC k m c) (fun m => fI (k.wrap (.negSucc m)) c) n
theorem wrapC_eq (k : IntKind) (n : Int) (c : Int → β) : wrapC k n c = c (k.wrap n) := by
  cases n with
  | ofNat m => exact natC_eq k m c
  | negSucc m => exact fI_eq _ _
/-- cells that are bytes -/
noncomputable def bytesC (l : List AV) (f : β) : (List Nat → β) → β :=
  List.rec (motive := fun _ => (List Nat → β) → β) (fun c => c [])
    (fun v _ ih c => asIntC v f fun k n => bif' (Nat.beq (kn k) 4) (Int.rec (motive := fun _ => β) (fun m => bif' (Nat.ble m 255) (ih fun r => c (m :: r)) f) (fun _ => f) n) f) l
theorem bytesC_sound (f : β) : ∀ (l : List AV) (vs : List Value) (c : List Nat → β), VRels P φ l vs → bytesC l f c = f ∨ ∃ ns : List Nat, bytesC l f c = c ns ∧ vs = (ns.map Int.ofNat).map (Value.int .u8) ∧ ∀ n ∈ ns, n < 256
  | [], _, c, .nil => .inr ⟨[], rfl, rfl, by simp⟩
  | v :: l, _, c, .cons _ _ v' vs hv hs => by
    cases hv <;> try exact .inl rfl
    rename_i k n
    show bif' (Nat.beq (kn k) 4) (Int.rec (motive := fun _ => β) (fun m => bif' (Nat.ble m 255) (bytesC l f fun r => c (m :: r)) f) (fun _ => f) n) f = f ∨ _
    by_cases hk : Nat.beq (kn k) 4 = true
    case neg => left; rw [eq_false_of_ne_true hk]; rfl
    have : k = .u8 := kn_inj (k := .u8) hk
    subst this
    cases n with
    | negSucc m => left; rw [hk]; rfl
    | ofNat m =>
      by_cases hm : Nat.ble m 255 = true
      case neg =>
        left; rw [hk, bif_true]
        show bif' (Nat.ble m 255) _ f = f
        rw [eq_false_of_ne_true hm]; rfl
      rcases bytesC_sound f l vs (fun r => c (m :: r)) hs with e | ⟨ns, e, h1, h2⟩
      · left
        rw [hk, bif_true]
        show bif' (Nat.ble m 255) _ f = f
        rw [hm, bif_true, e]
      · right
        refine ⟨m :: ns, ?_, by simp [h1], ?_⟩
        · show bif' (Nat.beq (kn .u8) 4) (bif' (Nat.ble m 255) (bytesC l f fun r => c (m :: r)) f) f = _
          rw [hk, hm, bif_true, bif_true, e]
        · intro n hn
          simp only [List.mem_cons] at hn
          rcases hn with rfl | hn
          · have := Nat.le_of_ble_eq_true hm; omega
          · exact h2 n hn
end

theorem push_bytes : ∀ (ns : List Nat) (s : ByteArray), (∀ n ∈ ns, n < 256) → ((ns.map Int.ofNat).foldl (fun r n => r.push (UInt8.ofNat n.toNat)) s).data.toList.map (·.toNat) = s.data.toList.map (·.toNat) ++ ns
  | [], s, _ => by simp
  | n :: ns, s, h => by
    simp only [List.map_cons, List.foldl_cons]
    rw [push_bytes ns _ (fun m hm => h m (by simp [hm]))]
    have hn := h n (by simp)
    simp [ByteArray.push, Nat.mod_eq_of_lt hn]

noncomputable def byteV (l : List Nat) : List (List AV) := List.rec (motive := fun _ => List (List AV)) [] (fun x _ ih => [.int .u8 (.ofNat x)] :: ih) l
theorem byteV_flat : ∀ l : List Nat, (byteV l).flatten = l.map fun x => .int .u8 (.ofNat x)
  | [] => rfl
  | x :: l => by show [_] ++ (byteV l).flatten = _; rw [byteV_flat l]; rfl
theorem byteV_len : ∀ (l : List Nat), ∀ r ∈ byteV l, r.length = 1
  | [], r, h => by simp [byteV] at h
  | x :: l, r, h => by
    have : r ∈ [AV.int .u8 (.ofNat x)] :: byteV l := h
    simp only [List.mem_cons] at this
    rcases this with rfl | h
    · rfl
    · exact byteV_len l r h

noncomputable def convR (cv : Cv) (x : X) (T : Tr AV) (H : Heap) : R1 := withX T x .fail fun v =>
  Cv.rec (motive := fun _ => R1) .fail (fun k => asIntC v .fail fun _ n => wrapC k n fun n => .val (.int k n) H) (asStrC v .fail fun l => .val (.str l) H)
    (fun _ => asStrC v .fail fun l => H.addC (.row true 1 (byteV l)) fun k G => fN l.length fun n => .val (.slice k 0 n 1 false n) G)
    (asSliceC v .fail (.val (.str []) H) fun k off len _ _ _ => loadC H k off len .fail fun l => bytesC l .fail fun ns => .val (.str ns) H) cv

theorem isU8_of {e : TypeId} (h : isU8 P e = true) : P.underlying e = some (.int .u8) := by
  unfold isU8 at h
  split at h
  · assumption
  · cases h

theorem vrels_bytes (l : List UInt8) : VRels P φ ((l.map (·.toNat)).map fun x => .int .u8 (.ofNat x)) (l.map fun b => .int .u8 b.toNat) := by
  induction l with
  | nil => exact .nil
  | cons x l ih => exact .cons _ _ _ _ (.int _ _) ih

theorem conv_sound (hw : WRel P φ H w) {src dst : TypeId} {o : Operand} {x : X} (hx : cX o = some x) (ht : TRelAt P φ T a.tmps (· ∈ tmpsOf [o])) :
    Ran P φ H w (do return Next.value (← convert src dst (a.eval o))) (convR (cvOf P src dst) x T H) := by
  unfold convR
  rcases withX_eq T x R1.fail (fun v => Cv.rec (motive := fun _ => R1) .fail (fun k => asIntC v .fail fun _ n => wrapC k n fun n => .val (.int k n) H) (asStrC v .fail fun l => .val (.str l) H)
    (fun _ => asStrC v .fail fun l => H.addC (.row true 1 (byteV l)) fun k G => fN l.length fun n => .val (.slice k 0 n 1 false n) G)
    (asSliceC v .fail (.val (.str []) H) fun k off len _ _ _ => loadC H k off len .fail fun l => bytesC l .fail fun ns => .val (.str ns) H) (cvOf P src dst)) with ⟨_, e⟩ | ⟨v, hv, e⟩ <;> rw [e]
  · exact .fail
  have hv' := evX_sound ht hx hv
  generalize a.eval o = y at *
  unfold cvOf
  split
  · rename_i hs hd
    show Ran P φ H w _ (asIntC v .fail fun _ n => wrapC _ n fun n => .val (.int _ n) H)
    cases hv' <;> try exact .fail
    rename_i k n
    show Ran P φ H w _ (wrapC _ n fun n => .val (.int _ n) H)
    rw [wrapC_eq]
    exact .pure hw (run_v (by simp [convert, run_underlying hs, run_underlying hd, Conv.intToInt])) (.int _ _)
  · rename_i hs hd
    show Ran P φ H w _ (asStrC v .fail fun l => .val (.str l) H)
    cases hv' <;> try exact .fail
    rename_i l s h
    exact .pure hw (run_v (by simp [convert, run_underlying hs, run_underlying hd])) (.str _ _ h)
  · rename_i e' hs hd
    split
    case isFalse => exact .fail
    rename_i h8
    have h8 := isU8_of h8
    show Ran P φ H w _ (asStrC v .fail fun l => H.addC (.row true 1 (byteV l)) fun k G => fN l.length fun n => .val (.slice k 0 n 1 false n) G)
    cases hv' <;> try exact .fail
    rename_i l s h
    show Ran P φ H w _ (H.addC (.row true 1 (byteV l)) fun k G => fN l.length fun n => .val (.slice k 0 n 1 false n) G)
    rw [Heap.addC_eq, fN_eq]
    subst h
    let cap := (Question.appendCap s.size 0 e').cut (w.tape w.drawn (.appendCap s.size 0 e'))
    have hcap : s.size ≤ cap := by show s.size ≤ s.size + _; omega
    let post : List Value := List.replicate (cap - s.size) (.int .u8 0)
    let vs : List Value := s.data.toList.map fun b => .int .u8 b.toNat
    have hvl : vs.length = s.size := by simp only [vs, List.length_map]; rfl
    have hn : (vs ++ post).length = cap := by simp [post]; rw [hvl]; omega
    have hrow := newRow_sound (P := P) (hw.drew (w.drawn + 1)) (esz := 1) (rows := byteV (s.data.toList.map (·.toNat))) (by omega) (byteV_len _) (vs := vs) (post := post)
      (by rw [byteV_flat]; exact vrels_bytes _) (by intro v hv; simp [vs] at hv; obtain ⟨b, _, rfl⟩ := hv; rfl) (by intro v hv; rw [List.eq_of_mem_replicate hv]; rfl) e' (vs ++ post).length ((vs ++ post).length + 1) (.inr ⟨Nat.le_refl _, rfl⟩)
    refine .val _ _ _ (.slice (some ⟨w.heap.size, 0, none⟩) s.size cap) _ _ (run_v ?_) (.inl rfl) hrow.1 (Ext.drew0 _ hrow.2) ?_
    · have harr : (s.data.map fun b => Value.int .u8 b.toNat) ++ Array.replicate (cap - s.size) (Value.int .u8 0) = (vs ++ post).toArray := by
        apply Array.ext'; simp [vs, post]
      have hsz : ((vs ++ post).toArray).size = (vs ++ post).length := by simp
      simp only [convert, Sem.run_bind, run_underlying hs, run_underlying hd, run_underlying h8, Result.andThen_ok, Conv.stringToBytes, run_choose, Question.forced, Bool.false_eq_true, if_false, newRow, run_newObj, Sem.run_pure]
      have harr' : (s.data.map fun b => Value.int .u8 b.toNat) ++ Array.replicate ((Question.appendCap s.size 0 e').cut (w.tape w.drawn (.appendCap s.size 0 e')) - s.size) (Value.int .u8 0) = (vs ++ post).toArray := harr
      rw [harr']
      simp only [markStringish, Sem.run_bind, run_shape, Result.andThen_ok, World.shape?, Array.getElem?_push_size, run_freeze, hsz]
      congr 1
      simp only [World.freeze, Nat.one_ne_zero, if_false]
      congr 1
      apply Array.ext
      · simp
      · intro i h1 h2
        simp only [Array.getElem_modify, Array.getElem_push]
        split
        · rename_i hi
          subst hi
          simp
        · rename_i hi
          split
          · rfl
          · rename_i h3; simp at h1; omega
    · have hl : (List.map (fun x => x.toNat) s.data.toList).length = s.size := by rw [List.length_map]; rfl
      have := VRel.slice (P := P) (φ := Phi.put φ H.nx ⟨w.heap.size, 0, (vs ++ post).length⟩) H.nx 0 (s.data.toList.map (·.toNat)).length 1 false (s.data.toList.map (·.toNat)).length ⟨w.heap.size, 0, (vs ++ post).length⟩ cap (Phi.put_same _ _ _) (by simp) (by rw [hl]; exact hcap) (Nat.le_refl _) (by simp only; omega)
      rw [hl] at this ⊢
      exact this
  · rename_i e' hs hd
    split
    case isFalse => exact .fail
    rename_i h8
    have h8 := isU8_of h8
    show Ran P φ H w _ (asSliceC v .fail (.val (.str []) H) fun k off len _ _ _ => loadC H k off len .fail fun l => bytesC l .fail fun ns => .val (.str ns) H)
    cases hv' <;> try exact .fail
    · exact .pure hw (run_v (by rw [run_convert_bytes_string w src dst e' none 0 0 hs h8 hd]; rfl)) (.str _ _ rfl)
    · rename_i k off len esz ex cap at_ c hk hx hc hl hn
      show Ran P φ H w _ (loadC H k off len .fail fun l => bytesC l .fail fun ns => .val (.str ns) H)
      rcases loadC_sound hw hk off len R1.fail (fun l => bytesC l .fail fun ns => .val (.str ns) H) with e | ⟨l, vs, e, _, h1, _, hr, _⟩ <;> rw [e]
      · exact .fail
      rcases bytesC_sound R1.fail l vs (fun ns => .val (.str ns) H) h1 with e | ⟨ns, e, h2, h3⟩ <;> rw [e]
      · exact .fail
      rw [h2] at hr
      refine .pure hw (run_v (by rw [run_convert_bytes_string w src dst e' _ _ _ hs h8 hd, run_bytesToString w _ len c _ hr])) (.str _ _ ?_)
      rw [push_bytes ns _ h3]; rfl
    · rename_i k off esz ex at_ x' hk
      show Ran P φ H w _ (loadC H k off 0 .fail fun l => bytesC l .fail fun ns => .val (.str ns) H)
      rcases loadC_sound hw hk off 0 R1.fail (fun l => bytesC l .fail fun ns => .val (.str ns) H) with e | ⟨l, vs, e, hl, _⟩ <;> rw [e]
      · exact .fail
      match l, hl with
      | [], _ =>
        exact .pure hw (run_v (by rw [run_convert_bytes_string w src dst e' _ _ _ hs h8 hd, run_bytesToString w _ 0 0 [] rfl])) (.str _ _ rfl)
  · exact .fail

/-! ### Values made of one -/
noncomputable def mvR (x : X) (T : Tr AV) (H : Heap) : R1 := withX T x .fail fun v => .val v H
theorem mv_sound (hw : WRel P φ H w) {o : Operand} {x : X} (hx : cX o = some x) (ht : TRelAt P φ T a.tmps (· ∈ tmpsOf [o])) (s : Sem Next) (hs : s.run P w = .ok (.value (a.eval o)) w) : Ran0 P φ H w s (mvR x T H) := by
  unfold mvR
  rcases withX_eq T x R1.fail (fun v => .val v H) with ⟨_, e⟩ | ⟨v, hv, e⟩ <;> rw [e]
  · exact .fail
  exact .pure hw hs (evX_sound ht hx hv)

noncomputable def pickR (c x y : X) (T : Tr AV) (H : Heap) : R1 := withX T c .fail fun v => asBoolC v .fail fun b => bif' b (mvR x T H) (mvR y T H)
theorem pick_sound (hw : WRel P φ H w) {o1 o2 o3 : Operand} {c x y : X} (hc : cX o1 = some c) (hx : cX o2 = some x) (hy : cX o3 = some y) (ht : TRelAt P φ T a.tmps (· ∈ tmpsOf [o1, o2, o3])) :
    Ran0 P φ H w (do pure (.value (if ← asBool (a.eval o1) then a.eval o2 else a.eval o3))) (pickR c x y T H) := by
  have h1 : TRelAt P φ T a.tmps (· ∈ tmpsOf [o1]) := ht.sub fun t h => by simp only [tmpsOf, List.filterMap_cons, List.filterMap_nil] at h ⊢; split at h <;> simp_all
  have h2 : TRelAt P φ T a.tmps (· ∈ tmpsOf [o2]) := ht.sub fun t h => by simp only [tmpsOf, List.filterMap_cons, List.filterMap_nil] at h ⊢; (split at h <;> (split <;> split)) <;> simp_all
  have h3 : TRelAt P φ T a.tmps (· ∈ tmpsOf [o3]) := ht.sub fun t h => by simp only [tmpsOf, List.filterMap_cons, List.filterMap_nil] at h ⊢; (split at h <;> (split <;> split)) <;> simp_all
  unfold pickR
  rcases withX_eq T c R1.fail (fun v => asBoolC v .fail fun b => bif' b (mvR x T H) (mvR y T H)) with ⟨_, e⟩ | ⟨v, hv, e⟩ <;> rw [e]
  · exact .fail
  have hv' := evX_sound h1 hc hv
  generalize a.eval o1 = q at *
  cases hv' <;> try exact .fail
  rename_i b
  show Ran0 P φ H w _ (bif' b (mvR x T H) (mvR y T H))
  cases b
  · exact mv_sound hw hy h3 _ rfl
  · exact mv_sound hw hx h2 _ rfl

noncomputable def mkiR (t : TypeId) (x : X) (T : Tr AV) (H : Heap) : R1 := withX T x .fail fun v => .val (.iface t v) H
theorem mki_sound (hw : WRel P φ H w) {t : TypeId} {d : TypeDesc} (hu : P.underlying t = some d) (hd : ∀ m, d ≠ .interface m) {o : Operand} {x : X} (hx : cX o = some x) (ht : TRelAt P φ T a.tmps (· ∈ tmpsOf [o])) :
    Ran0 P φ H w (do return Next.value (← Instr.makeInterface t (a.eval o))) (mkiR t x T H) := by
  unfold mkiR
  rcases withX_eq T x R1.fail (fun v => .val (.iface t v) H) with ⟨_, e⟩ | ⟨v, hv, e⟩ <;> rw [e]
  · exact .fail
  refine .pure hw (run_v ?_) (.iface _ _ _ (evX_sound ht hx hv))
  simp only [Instr.makeInterface, Sem.run_bind, run_underlying hu, Result.andThen_ok]
  cases d <;> first | rfl | exact absurd rfl (hd _)

noncomputable def extR (x : X) (i : Nat) (T : Tr AV) (H : Heap) : R1 := withX T x .fail fun v => asTupC v .fail fun l => Option.rec (motive := fun _ => R1) .fail (fun u => .val u H) (nthL i l)
theorem ext_sound (hw : WRel P φ H w) {o : Operand} {x : X} (hx : cX o = some x) (ht : TRelAt P φ T a.tmps (· ∈ tmpsOf [o])) (i : Nat) :
    Ran0 P φ H w (do return Next.value (← Instr.extract (a.eval o) i)) (extR x i T H) := by
  unfold extR
  rcases withX_eq T x R1.fail (fun v => asTupC v .fail fun l => Option.rec (motive := fun _ => R1) .fail (fun u => .val u H) (nthL i l)) with ⟨_, e⟩ | ⟨v, hv, e⟩ <;> rw [e]
  · exact .fail
  have hv' := evX_sound ht hx hv
  generalize a.eval o = y at *
  cases hv' <;> try exact .fail
  rename_i l c h
  show Ran0 P φ H w _ (Option.rec (motive := fun _ => R1) .fail (fun u => .val u H) (nthL i l))
  rw [nthL_eq]
  cases hi : l[i]? with
  | none => exact .fail
  | some u =>
    obtain ⟨u', h1, h2⟩ := h.nth i hi
    refine .pure hw (run_v ?_) h2
    have : c[i]? = some u' := by simpa using h1
    simp [Instr.extract, this]

/-! ### Parts -/
/-- n cells of a value from off on, as one value -/
noncomputable def partC {β : Type} (agg : Bool) (n : Nat) (l : List AV) (off : Nat) (f : β) (c : AV → β) : β :=
  bif' agg (takeC f n (dropL off l) fun r => c (.agg r)) (Option.rec (motive := fun _ => β) f (fun v => c v) (nthL off l))
theorem partC_sound {β : Type} {t : TypeId} {b : Bool} {n : Nat} (hb : aggT P t = some b) (hn : szT P t = some n) {l : List AV} {cs : Array Value} (h : VRels P φ l cs.toList) (h1 : ∀ v ∈ cs.toList, v.oneCell' = true) (off : Nat) (f : β) (c : AV → β) (w : World) :
    partC b n l off f c = f ∨ ∃ v v', partC b n l off f c = c v ∧ (part t cs off).run P w = .ok v' w ∧ VRel P φ v v' := by
  unfold partC
  cases b
  · rw [bif_false, nthL_eq]
    cases hi : l[off]? with
    | none => exact .inl rfl
    | some v =>
      obtain ⟨v', h2, h3⟩ := h.nth off hi
      have : cs[off]? = some v' := by simpa using h2
      exact .inr ⟨v, v', rfl, by simp [part, run_isAgg' hb, this], h3⟩
  · rw [bif_true, takeC_eq, dropL_eq]
    split
    · refine .inr ⟨_, .agg (cs.extract off (off + n)), rfl, by simp [part, run_isAgg' hb, run_sizeOf' hn], .agg _ _ ?_ ?_⟩
      · simp only [Array.toList_extract, List.extract_eq_take_drop]
        rw [show off + n - off = n by omega]
        exact (h.drop off).take n
      · intro v hv
        simp only [Array.toList_extract, List.extract_eq_take_drop] at hv
        exact h1 v (List.mem_of_mem_drop (List.mem_of_mem_take hv))
    · exact .inl rfl

noncomputable def fldR (agg : Bool) (n off : Nat) (x : X) (T : Tr AV) (H : Heap) : R1 := withX T x .fail fun v => asAggC v .fail fun l => partC agg n l off .fail fun u => .val u H
theorem fld_sound (hw : WRel P φ H w) {t : TypeId} {fs : Array Field} {fd : Field} {i : Nat} (hu : P.underlying t = some (.struct fs)) (hi : fs[i]? = some fd) {b : Bool} {n : Nat} (hb : aggT P fd.type = some b) (hn : szT P fd.type = some n)
    {o : Operand} {x : X} (hx : cX o = some x) (ht : TRelAt P φ T a.tmps (· ∈ tmpsOf [o])) :
    Ran0 P φ H w (do return Next.value (← Instr.field t (a.eval o) i)) (fldR b n fd.offset x T H) := by
  unfold fldR
  rcases withX_eq T x R1.fail (fun v => asAggC v .fail fun l => partC b n l fd.offset .fail fun u => .val u H) with ⟨_, e⟩ | ⟨v, hv, e⟩ <;> rw [e]
  · exact .fail
  have hv' := evX_sound ht hx hv
  generalize a.eval o = y at *
  cases hv' <;> try exact .fail
  rename_i l c h h1
  show Ran0 P φ H w _ (partC b n l fd.offset .fail fun u => .val u H)
  rcases partC_sound hb hn h h1 fd.offset R1.fail (fun u => .val u H) w with e | ⟨v, v', e, hr, hvr⟩ <;> rw [e]
  · exact .fail
  exact .pure hw (run_v (by simp [Instr.field, run_underlying hu, hi, asAgg, hr])) hvr

noncomputable def faR (off : Nat) (x : X) (T : Tr AV) (H : Heap) : R1 := withX T x .fail fun v => asPtrC v .fail fun k i => fN (i + off) fun i => .val (.ptr k i) H
theorem fa_sound (hw : WRel P φ H w) {t : TypeId} {fs : Array Field} {fd : Field} {i : Nat} (hu : P.underlying t = some (.struct fs)) (hi : fs[i]? = some fd) {n : Nat} (hn : szT P fd.type = some n) (h0 : n ≠ 0)
    {o : Operand} {x : X} (hx : cX o = some x) (ht : TRelAt P φ T a.tmps (· ∈ tmpsOf [o])) :
    Ran0 P φ H w (do return Next.value (← Instr.fieldAt t (a.eval o) i)) (faR fd.offset x T H) := by
  unfold faR
  rcases withX_eq T x R1.fail (fun v => asPtrC v .fail fun k i => fN (i + fd.offset) fun i => .val (.ptr k i) H) with ⟨_, e⟩ | ⟨v, hv, e⟩ <;> rw [e]
  · exact .fail
  have hv' := evX_sound ht hx hv
  generalize a.eval o = y at *
  cases hv' <;> try exact .fail
  rename_i k off at_ hk
  show Ran0 P φ H w _ (fN (off + fd.offset) fun i => .val (.ptr k i) H)
  rw [fN_eq]
  refine .pure hw (run_v ?_) (.ptr _ _ at_ hk)
  simp only [Instr.fieldAt, Sem.run_bind, run_underlying hu, Result.andThen_ok, hi, Instr.sureAddr, Sem.run_pure, fieldPlace, run_sizeOf' hn, if_neg h0, add_at]
  rw [Nat.add_assoc]

/-- an index: a number that isn't negative -/
noncomputable def ixC {β : Type} (v : AV) (f : β) (c : Nat → β) : β := asIntC v f fun _ n => Int.rec (motive := fun _ => β) (fun m => c m) (fun _ => f) n
theorem ixC_sound {β : Type} {v : AV} {v' : Value} (h : VRel P φ v v') (f : β) (c : Nat → β) : ixC v f c = f ∨ ∃ k n, v' = .int k (.ofNat n) ∧ ixC v f c = c n := by
  cases h <;> try exact .inl rfl
  rename_i k n
  cases n with
  | ofNat m => exact .inr ⟨k, m, rfl, rfl⟩
  | negSucc m => exact .inl rfl

/-- the address of an element: of a slice -/
noncomputable def iaS (esz : Nat) (x i : X) (T : Tr AV) (H : Heap) : R1 := withX T x .fail fun v => withX T i .fail fun j => ixC j .fail fun j => asSliceC v .fail .fail fun k off len _ _ _ =>
  bif' (Nat.ble (j + 1) len) (fN (off + j * esz) fun o => .val (.ptr k o) H) .fail
theorem iaS_sound (hw : WRel P φ H w) {t e : TypeId} {esz : Nat} (hu : P.underlying t = some (.slice e)) (hn : szT P e = some esz) {o1 o2 : Operand} {x i : X} (hx : cX o1 = some x) (hi : cX o2 = some i) (ht : TRelAt P φ T a.tmps (· ∈ tmpsOf [o1, o2])) :
    Ran0 P φ H w (do return Next.value (← Instr.indexAt t (a.eval o1) (a.eval o2))) (iaS esz x i T H) := by
  unfold iaS
  rcases withX_eq T x R1.fail (fun v => withX T i .fail fun j => ixC j .fail fun j => asSliceC v .fail .fail fun k off len _ _ _ => bif' (Nat.ble (j + 1) len) (fN (off + j * esz) fun o => .val (.ptr k o) H) .fail) with ⟨_, e⟩ | ⟨v, hv, e⟩ <;> rw [e] <;> clear e
  · exact .fail
  rcases withX_eq T i R1.fail (fun j => ixC j .fail fun j => asSliceC v .fail .fail fun k off len _ _ _ => bif' (Nat.ble (j + 1) len) (fN (off + j * esz) fun o => .val (.ptr k o) H) .fail) with ⟨_, e⟩ | ⟨j, hj, e⟩ <;> rw [e] <;> clear e
  · exact .fail
  have hv' := evX_sound (sub2a ht) hx hv
  have hj' := evX_sound (sub2b ht) hi hj
  rcases ixC_sound hj' R1.fail (fun j => asSliceC v .fail .fail fun k off len _ _ _ => bif' (Nat.ble (j + 1) len) (fN (off + j * esz) fun o => .val (.ptr k o) H) .fail) with e | ⟨kd, n, hje, e⟩ <;> rw [e] <;> clear e
  · exact .fail
  rw [hje]
  generalize a.eval o1 = y at *
  cases hv' <;> try exact .fail
  rename_i k off len es ex cap at_ c hk hx hc hl hlen
  show Ran0 P φ H w _ (bif' (Nat.ble (n + 1) len) (fN (off + n * esz) fun o => .val (.ptr k o) H) .fail)
  by_cases hb : Nat.ble (n + 1) len = true
  case neg => rw [eq_false_of_ne_true hb]; exact .fail
  rw [hb, bif_true, fN_eq]
  have hlt := Nat.le_of_ble_eq_true hb
  refine .pure hw (run_v ?_) (.ptr _ _ at_ hk)
  have hlt' : (0 : Int) ≤ (n : Int) ∧ (n : Int) < (len : Int) := by omega
  simp only [Instr.indexAt, asIntOf, Sem.run_bind, Sem.run_pure, Result.andThen_ok, run_underlying hu]
  simp only [Int.ofNat_eq_natCast, hlt', and_self, if_true, Sem.run_bind, run_sizeOf' hn, Result.andThen_ok, Sem.run_pure, Int.toNat_natCast, add_at]
  rw [Nat.add_assoc]

/-- the address of an element: of an array -/
noncomputable def iaA (len esz : Nat) (x i : X) (T : Tr AV) (H : Heap) : R1 := withX T x .fail fun v => withX T i .fail fun j => ixC j .fail fun j => asPtrC v .fail fun k off =>
  bif' (Nat.ble (j + 1) len) (fN (off + j * esz) fun o => .val (.ptr k o) H) .fail
theorem iaA_sound (hw : WRel P φ H w) {t e : TypeId} {len esz : Nat} (hu : P.underlying t = some (.array len e)) (hn : szT P e = some esz) {o1 o2 : Operand} {x i : X} (hx : cX o1 = some x) (hi : cX o2 = some i) (ht : TRelAt P φ T a.tmps (· ∈ tmpsOf [o1, o2])) :
    Ran0 P φ H w (do return Next.value (← Instr.indexAt t (a.eval o1) (a.eval o2))) (iaA len esz x i T H) := by
  unfold iaA
  rcases withX_eq T x R1.fail (fun v => withX T i .fail fun j => ixC j .fail fun j => asPtrC v .fail fun k off => bif' (Nat.ble (j + 1) len) (fN (off + j * esz) fun o => .val (.ptr k o) H) .fail) with ⟨_, e⟩ | ⟨v, hv, e⟩ <;> rw [e] <;> clear e
  · exact .fail
  rcases withX_eq T i R1.fail (fun j => ixC j .fail fun j => asPtrC v .fail fun k off => bif' (Nat.ble (j + 1) len) (fN (off + j * esz) fun o => .val (.ptr k o) H) .fail) with ⟨_, e⟩ | ⟨j, hj, e⟩ <;> rw [e] <;> clear e
  · exact .fail
  have hv' := evX_sound (sub2a ht) hx hv
  have hj' := evX_sound (sub2b ht) hi hj
  rcases ixC_sound hj' R1.fail (fun j => asPtrC v .fail fun k off => bif' (Nat.ble (j + 1) len) (fN (off + j * esz) fun o => .val (.ptr k o) H) .fail) with e | ⟨kd, n, hje, e⟩ <;> rw [e] <;> clear e
  · exact .fail
  rw [hje]
  generalize a.eval o1 = y at *
  cases hv' <;> try exact .fail
  rename_i k off at_ hk
  show Ran0 P φ H w _ (bif' (Nat.ble (n + 1) len) (fN (off + n * esz) fun o => .val (.ptr k o) H) .fail)
  by_cases hb : Nat.ble (n + 1) len = true
  case neg => rw [eq_false_of_ne_true hb]; exact .fail
  rw [hb, bif_true, fN_eq]
  have hlt := Nat.le_of_ble_eq_true hb
  refine .pure hw (run_v ?_) (.ptr _ _ at_ hk)
  have hlt' : (0 : Int) ≤ (n : Int) ∧ (n : Int) < (len : Int) := by omega
  simp only [Instr.indexAt, asIntOf, Sem.run_bind, Sem.run_pure, Result.andThen_ok, run_underlying hu, Instr.sureAddr]
  simp only [Int.ofNat_eq_natCast, hlt', and_self, if_true, Sem.run_bind, run_sizeOf' hn, Result.andThen_ok, Sem.run_pure, Int.toNat_natCast, add_at]
  rw [Nat.add_assoc]

/-- an element of an array that is a value; a byte of a string -/
noncomputable def ixR (str agg : Bool) (len esz : Nat) (x i : X) (T : Tr AV) (H : Heap) : R1 := withX T x .fail fun v => withX T i .fail fun j => ixC j .fail fun j =>
  bif' str (asStrC v .fail fun l => Option.rec (motive := fun _ => R1) .fail (fun b => fN b fun b => .val (.int .u8 (.ofNat b)) H) (nthL j l))
    (asAggC v .fail fun l => bif' (Nat.ble (j + 1) len) (partC agg esz l (j * esz) .fail fun u => .val u H) .fail)
theorem ixA_sound (hw : WRel P φ H w) {t e : TypeId} {len esz : Nat} {b : Bool} (hu : P.underlying t = some (.array len e)) (hb : aggT P e = some b) (hn : szT P e = some esz) {o1 o2 : Operand} {x i : X} (hx : cX o1 = some x) (hi : cX o2 = some i) (ht : TRelAt P φ T a.tmps (· ∈ tmpsOf [o1, o2])) :
    Ran0 P φ H w (do return Next.value (← Instr.index t (a.eval o1) (a.eval o2))) (ixR false b len esz x i T H) := by
  unfold ixR
  rcases withX_eq T x R1.fail (fun v => withX T i .fail fun j => ixC j .fail fun j => bif' false (asStrC v .fail fun l => Option.rec (motive := fun _ => R1) .fail (fun b => fN b fun b => .val (.int .u8 (.ofNat b)) H) (nthL j l)) (asAggC v .fail fun l => bif' (Nat.ble (j + 1) len) (partC b esz l (j * esz) .fail fun u => .val u H) .fail)) with ⟨_, e⟩ | ⟨v, hv, e⟩ <;> rw [e] <;> clear e
  · exact .fail
  rcases withX_eq T i R1.fail (fun j => ixC j .fail fun j => bif' false (asStrC v .fail fun l => Option.rec (motive := fun _ => R1) .fail (fun b => fN b fun b => .val (.int .u8 (.ofNat b)) H) (nthL j l)) (asAggC v .fail fun l => bif' (Nat.ble (j + 1) len) (partC b esz l (j * esz) .fail fun u => .val u H) .fail)) with ⟨_, e⟩ | ⟨j, hj, e⟩ <;> rw [e] <;> clear e
  · exact .fail
  have hv' := evX_sound (sub2a ht) hx hv
  have hj' := evX_sound (sub2b ht) hi hj
  rcases ixC_sound hj' R1.fail (fun j => bif' false (asStrC v .fail fun l => Option.rec (motive := fun _ => R1) .fail (fun b => fN b fun b => .val (.int .u8 (.ofNat b)) H) (nthL j l)) (asAggC v .fail fun l => bif' (Nat.ble (j + 1) len) (partC b esz l (j * esz) .fail fun u => .val u H) .fail)) with e | ⟨kd, n, hje, e⟩ <;> rw [e] <;> clear e
  · exact .fail
  rw [hje, bif_false]
  generalize a.eval o1 = y at *
  cases hv' <;> try exact .fail
  rename_i l c h h1
  show Ran0 P φ H w _ (bif' (Nat.ble (n + 1) len) (partC b esz l (n * esz) .fail fun u => .val u H) .fail)
  by_cases hle : Nat.ble (n + 1) len = true
  case neg => rw [eq_false_of_ne_true hle]; exact .fail
  rw [hle, bif_true]
  have hlt := Nat.le_of_ble_eq_true hle
  have hlt' : (0 : Int) ≤ (n : Int) ∧ (n : Int) < (len : Int) := by omega
  rcases partC_sound hb hn h h1 (n * esz) R1.fail (fun u => .val u H) w with e | ⟨v, v', e, hr, hvr⟩ <;> rw [e]
  · exact .fail
  refine .pure hw (run_v ?_) hvr
  simp only [Instr.index, asIntOf, Sem.run_bind, Sem.run_pure, Result.andThen_ok, run_underlying hu]
  simp only [Int.ofNat_eq_natCast, hlt', and_self, if_true, Sem.run_bind, run_sizeOf' hn, Result.andThen_ok, Int.toNat_natCast]
  exact hr
theorem ixS_sound (hw : WRel P φ H w) {t : TypeId} (hu : P.underlying t = some .string) {o1 o2 : Operand} {x i : X} (hx : cX o1 = some x) (hi : cX o2 = some i) (ht : TRelAt P φ T a.tmps (· ∈ tmpsOf [o1, o2])) :
    Ran0 P φ H w (do return Next.value (← Instr.index t (a.eval o1) (a.eval o2))) (ixR true false 0 0 x i T H) := by
  unfold ixR
  rcases withX_eq T x R1.fail (fun v => withX T i .fail fun j => ixC j .fail fun j => bif' true (asStrC v .fail fun l => Option.rec (motive := fun _ => R1) .fail (fun b => fN b fun b => .val (.int .u8 (.ofNat b)) H) (nthL j l)) (asAggC v .fail fun l => bif' (Nat.ble (j + 1) 0) (partC false 0 l (j * 0) .fail fun u => .val u H) .fail)) with ⟨_, e⟩ | ⟨v, hv, e⟩ <;> rw [e] <;> clear e
  · exact .fail
  rcases withX_eq T i R1.fail (fun j => ixC j .fail fun j => bif' true (asStrC v .fail fun l => Option.rec (motive := fun _ => R1) .fail (fun b => fN b fun b => .val (.int .u8 (.ofNat b)) H) (nthL j l)) (asAggC v .fail fun l => bif' (Nat.ble (j + 1) 0) (partC false 0 l (j * 0) .fail fun u => .val u H) .fail)) with ⟨_, e⟩ | ⟨j, hj, e⟩ <;> rw [e] <;> clear e
  · exact .fail
  have hv' := evX_sound (sub2a ht) hx hv
  have hj' := evX_sound (sub2b ht) hi hj
  rcases ixC_sound hj' R1.fail (fun j => bif' true (asStrC v .fail fun l => Option.rec (motive := fun _ => R1) .fail (fun b => fN b fun b => .val (.int .u8 (.ofNat b)) H) (nthL j l)) (asAggC v .fail fun l => bif' (Nat.ble (j + 1) 0) (partC false 0 l (j * 0) .fail fun u => .val u H) .fail)) with e | ⟨kd, n, hje, e⟩ <;> rw [e] <;> clear e
  · exact .fail
  rw [hje, bif_true]
  generalize a.eval o1 = y at *
  cases hv' <;> try exact .fail
  rename_i l s h
  show Ran0 P φ H w _ (Option.rec (motive := fun _ => R1) .fail (fun b => fN b fun b => .val (.int .u8 (.ofNat b)) H) (nthL n l))
  rw [nthL_eq]
  cases hn : l[n]? with
  | none => exact .fail
  | some b =>
    show Ran0 P φ H w _ (fN b fun b => .val (.int .u8 (.ofNat b)) H)
    rw [fN_eq]
    subst h
    simp only [List.getElem?_map, Option.map_eq_some_iff] at hn
    obtain ⟨u, hu1, hu2⟩ := hn
    subst hu2
    refine .pure hw (run_v ?_) (.int _ _)
    have hb : s[n]? = some u := by
      have h1 : n < s.data.size := by have := (List.getElem?_eq_some_iff.1 hu1).1; simpa using this
      have h2 : s.data[n] = u := by have := (List.getElem?_eq_some_iff.1 hu1).2; simpa using this
      have h3 : n < s.size := h1
      rw [getElem?_pos s n h3]
      congr 1
    simp only [Instr.index, asIntOf, Sem.run_bind, Sem.run_pure, Result.andThen_ok, run_underlying hu]
    simp only [Int.ofNat_eq_natCast, Int.natCast_nonneg, if_true, Int.toNat_natCast, hb, Sem.run_pure]

end Go.Ev
